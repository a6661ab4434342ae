/- Laws for the row's walk. -/
import Derived.Test.YtibnehaibgbliaaGreatR11
import Derived.Test.YtibnehaibgbliaaGreatIter
set_option linter.unusedVariables false
set_option linter.unusedSimpArgs false
open Go.Lib renaming hid → Jh
namespace Go.Proofs.YtibnehaibgbliaaGreat.Mf
open Go.RowKit Go.Proofs.YtibnehaibgbliaaGreat
structure Cst where
 d:Ed
 tries:Int
 wait:Int
 fails:Nat
 due:Int
 ver:Int
 asked:Bool
 writes:Bool
 read:Md
 next:Md
 st:Int
 er:Int
noncomputable def sawS (s:Cst) (m:Md) (ver:Int):Cst :=
 if m.O.any (didB s.d.by_)=true then { s with read:=m,ver:=ver,st:=1,er:=0 }
 else if appE m s.d≠0 then { s with read:=m,ver:=ver,st:=2,er:=appE m s.d }
 else { s with read:=m,ver:=ver,next:=appM m s.d,writes:=true }
noncomputable def takeS (s:Cst) (err:Int) (data:List UInt8) (ver now:Int):Cst :=
 if err=10∨err=9 then
  { s with asked:=false,writes:=false,fails:=s.fails+1,due:=now+s.wait*2 ^ s.fails,st:=if s.tries≤(s.fails:Int)+1 then 3 else s.st,er:=if s.tries≤(s.fails:Int)+1 then 15 else s.er }
 else if s.writes=true then
  if err=0 then { s with asked:=false,writes:=false,read:=s.next,st:=1,er:=0 }
  else if err=8 then { s with asked:=false,writes:=false }
  else { s with asked:=false,writes:=false,st:=3,er:=err }
 else if err=7 then sawS { s with asked:=false,writes:=false } zeroM 0
 else if err≠0 then { s with asked:=false,writes:=false,st:=3,er:=err }
 else if (decB data).2≠0 then { s with asked:=false,writes:=false,st:=3,er:=(decB data).2 }
 else sawS { s with asked:=false,writes:=false } (decB data).1 ver
abbrev cmA (s:Cst) (q:Pd) (pr pn:Pl):Array Value :=
 #[.slice q.AA s.d.add.length q.cA,.slice q.AD s.d.drop.length q.cD,.slice q.AM s.d.marks.length q.cM,.int .i64 s.d.cut,.int .i64 s.d.fence,.int .i64 s.d.by_.agent,.int .i64 s.d.by_.life,.int .i64 s.d.by_.count,.int .i64 s.tries,.int .i64 s.wait,.int .i64 (s.fails:Int),.int .i64 s.due,.int .i64 s.ver,.bool s.asked,.bool s.writes,.int .i64 s.read.gen,.int .i64 s.read.cut,.int .i64 s.read.fence,.slice pr.AE s.read.E.length pr.cE,.slice pr.AM s.read.M.length pr.cM,.slice pr.AO s.read.O.length pr.cO,.int .i64 s.next.gen,.int .i64 s.next.cut,.int .i64 s.next.fence,.slice pn.AE s.next.E.length pn.cE,.slice pn.AM s.next.M.length pn.cM,.slice pn.AO s.next.O.length pn.cO,.int .i64 s.st,.int .i64 s.er]
structure Edo (w:World) (base:Nat) (d:Ed) (q:Pd):Prop where
 oa:w.ownsRow base 85 9 (.slice q.AA d.add.length q.cA) d.add.length (d.add.flatMap En.cs)
 od:w.ownsRow base 9 1 (.slice q.AD d.drop.length q.cD) d.drop.length (d.drop.map Value.string)
 om:w.ownsRow base 90 2 (.slice q.AM d.marks.length q.cM) d.marks.length (d.marks.flatMap Mk.cs)
structure Gd (m:Md):Prop where
 short:Short m.E
 ok:∀ x∈m.E,x.Ok
 e:m.E.length≤100000
 m_:m.M.length≤100000
 o:m.O.length≤100000
structure Ge (d:Ed):Prop where
 short:Short d.add
 ok:∀ x∈d.add,x.Ok
 okd:∀ k∈d.drop,k.size≤140737488351232
 a:d.add.length≤1000
 d_:d.drop.length≤1000
 m_:d.marks.length≤1000
section
variable {w w':World} {base base' g k:Nat} {t:TypeId} {cs:Array Value} {d:Ed} {q:Pd} {m:Md} {p:Pl}
theorem own_tag {n size:Nat} {e:TypeId} {v:Value} {xs:List Value} (h:w.ownsRow base e size v n xs) (hb:Blk w g t cs) (hne:e≠t):v.ownBlock≠some g:=by
 intro hv
 rcases h.2 with ⟨rfl,_⟩|⟨g',cap,cur,rfl,_,hg,_⟩
 ·cases hv
 ·injection hv with hv
  subst hv
  have h2:w.heap[g']?=some (.cells cs t (0,0)):=hb
  rw [hg] at h2
  injection h2 with h2
  injection h2 with _ h2
  exact hne h2
theorem own_free {n size:Nat} {e:TypeId} {v:Value} {xs:List Value} (h:w.ownsRow base e size v n xs) (ho:Only g w w') (hb:Blk w g t cs) (hne:e≠t):w'.ownsRow base e size v n xs:=h.kept ho (.inr (own_tag h hb hne))
theorem Edo.below (h:Edo w base d q) (hb:Below w.heap.size w w'):Edo w' base d q:=⟨own_below h.oa hb,own_below h.od hb,own_below h.om hb⟩
theorem Edo.only (h:Edo w base d q) (ho:Only g w w') (hb:Blk w g t cs) (h1:85≠t) (h2:9≠t) (h3:90≠t):Edo w' base d q:=⟨own_free h.oa ho hb h1,own_free h.od ho hb h2,own_free h.om ho hb h3⟩
theorem Edo.edi (h:Edo w base d q) (hg:Ge d):Edi w w.heap.size d q :=
 ⟨Reads.of_own h.oa,Reads.of_own h.od,Reads.of_own h.om,by have:=hg.a;omega,by have:=hg.d_;omega,by have:=hg.m_;omega,own_capn h.oa,own_capn h.od,own_capn h.om,hg.ok,hg.okd⟩
theorem Mow.only (h:Mow w base m p) (ho:Only g w w') (hb:Blk w g t cs) (h1:85≠t) (h2:90≠t) (h3:26≠t):Mow w' base m p:=⟨own_free h.oe ho hb h1,own_free h.om ho hb h2,own_free h.oo ho hb h3⟩
theorem Mow.good (h:Mow w base m p) (hg:Gd m):Man w w.heap.size m p:=h.man (by have:=hg.e;omega) (by have:=hg.m_;omega) (by have:=hg.o;omega) hg.ok
theorem Gd.zero:Gd zeroM:=⟨fun x hx=>(by cases hx),fun x hx=>(by cases hx),Nat.zero_le _,Nat.zero_le _,Nat.zero_le _⟩
end
structure Cgd (s:Cst):Prop where
 ge:Ge s.d
 read:Gd s.read
 next:Gd s.next
 tries:1≤s.tries∧s.tries≤8
 wait:0≤s.wait∧s.wait≤1099511627776
 fails:s.st=0→(s.fails:Int)<s.tries
 asked:s.asked=true→s.st=0
 er:s.st=0→s.er=0
structure CmAt (w:World) (base g:Nat) (s:Cst) (q:Pd) (pr pn:Pl):Prop where
 low:base≤g
 blk:Blk w g 92 (cmA s q pr pn)
 ed:Edo w base s.d q
 rd:Mow w base s.read pr
 nx:Mow w base s.next pn
section
variable {w w':World} {base g:Nat} {s:Cst} {q:Pd} {pr pn:Pl}
theorem CmAt.below (h:CmAt w base g s q pr pn) (hb:Below w.heap.size w w'):CmAt w' base g s q pr pn:=⟨h.low,h.blk.below hb h.blk.lt,h.ed.below hb,h.rd.below hb,h.nx.below hb⟩
theorem CmAt.put (h:CmAt w base g s q pr pn) (ho:Only g w w') {s':Cst} {pr' pn':Pl} (hb:Blk w' g 92 (cmA s' q pr' pn')) (hd:s'.d=s.d) (hr:Mow w' base s'.read pr') (hn:Mow w' base s'.next pn'):CmAt w' base g s' q pr' pn' :=
 ⟨h.low,hb,by rw [hd];exact h.ed.only ho h.blk (by decide) (by decide) (by decide),hr,hn⟩
theorem CmAt.other (h:CmAt w base g s q pr pn) {k:Nat} {t:TypeId} {cs:Array Value} (ho:Only k w w') (hk:Blk w k t cs) (h0:92≠t) (h1:85≠t) (h2:9≠t) (h3:90≠t) (h4:26≠t):CmAt w' base g s q pr pn :=
 ⟨h.low,ho.blk h.blk (h.blk.ne_ hk h0),h.ed.only ho hk h1 h2 h3,h.rd.only ho hk h1 h3 h4,h.nx.only ho hk h1 h3 h4⟩
theorem CmAt.read_ (h:CmAt w base g s q pr pn) (ho:Only g w w'):Mow w' base s.read pr:=h.rd.only ho h.blk (by decide) (by decide) (by decide)
theorem CmAt.next_ (h:CmAt w base g s q pr pn) (ho:Only g w w'):Mow w' base s.next pn:=h.nx.only ho h.blk (by decide) (by decide) (by decide)
end
end Go.Proofs.YtibnehaibgbliaaGreat.Mf
namespace Go.Proofs.YtibnehaibgbliaaGreat
open Go.RowKit
section
variable {P:Program} {ops:Array Oper} {Q:Exit→Act→World→Prop} {md:Region.Mode} {S:World→Prop} {tl:Nat→Bool}
def wpAnyC (P:Program) (md:Region.Mode) (ops:Array Oper) (Q:Exit→Act→World→Prop) (S:World→Prop) (tl:Nat→Bool):Nat→Array Bool→Act→World→Prop
 | 0,l,a,w=>Region.ready md ops l=[]∧Q .normal a w
 | n+1,l,a,w=>(Region.ready md ops l=[]→Q .normal a w)∧∀ i∈Region.ready md ops l,wpOp P ops Q i (fun b v=>(tl i=false→S v)∧wpAnyC P md ops Q S tl n (l.setIfInBounds i true) b v) a w
theorem wpAny_of_C:∀ (n:Nat) (l:Array Bool) (a:Act) (w:World),wpAnyC P md ops Q S tl n l a w→wpAny P md ops Q n l a w
 | 0,_,_,_,h=>h
 | n+1,_,_,_,h=>⟨h.1,fun i hi=>wpOp_mono (fun _ _ k=>wpAny_of_C n _ _ _ k.2) (h.2 i hi)⟩
def behindC (md:Region.Mode) (ops:Array Oper) (tl:Nat→Bool) (i:Nat):Bool:=(List.range ops.size).all fun t=>!tl t||(ops[t]?).elim true fun o=>o.after.any fun e=>Region.binds md e&&e.on == i
theorem behindC_not {l:Array Bool} {i j:Nat} (h:behindC md ops tl i=true) (hi:i∈Region.ready md ops l) (hj:j∈Region.ready md ops l):tl j=false:=by
 cases ht:tl j
 ·rfl
 exfalso
 obtain ⟨_,o,ho,hall⟩:=mem_ready.1 hj
 have hlt:j<ops.size:=(Array.getElem?_eq_some_iff.1 ho).1
 have h1:=List.all_eq_true.1 h j (List.mem_range.2 hlt)
 rw [ht,ho] at h1
 have h1:o.after.any (fun e=>Region.binds md e&&e.on == i)=true:=h1
 obtain ⟨k,hk,h1⟩:=Array.any_eq_true.1 h1
 rw [Bool.and_eq_true,beq_iff_eq] at h1
 have h2:=hall _ (Array.getElem_mem hk) h1.1
 have h3:=(mem_ready.1 hi).1
 rw [h1.2] at h2
 rcases Nat.lt_or_ge i l.size with h'|h'
 ·simp [h'] at h3 h2;rw [h3] at h2;cases h2
 ·simp [Array.getElem?_eq_none h'] at h2
theorem wpAnyC_first {i:Nat} {oi:Oper} {v:Value} (hi:ops[i]?=some oi) (hsel:∀ (j:Nat) (o:Oper) cs b,ops[j]?=some o→o.op≠.select cs b)
  (hQ:∀ c a w,Q (.panic c) (a.put oi.dst v) w→Q (.panic c) a w) (hb:behindC md ops tl i=true) :
  ∀ (n:Nat) (l:Array Bool) (a:Act) (w:World),
   (∀ j oj,ops[j]?=some oj→j≠i→l.getD j true=false→(∀ e∈oj.after,Region.binds md e=true→e.on≠i)→oi.apart ops oj=true) →
   i∈Region.ready md ops l→YieldsIf P ops S oi v a→S w →
   wpAnyC P md ops Q S tl n (l.setIfInBounds i true) (a.put oi.dst v) w→wpAnyC P md ops Q S tl (n+1) l a w:=by
 intro n
 induction n with
 | zero =>
  intro l a w _ hr hy hS H
  refine ⟨fun h=>absurd (h ▸ hr) (by simp),fun j hj=>?_⟩
  by_cases e:j=i
  ·rw [e];exact hy.wpOp hi hS ⟨fun _=>hS,H⟩
  ·exact absurd (H.1 ▸ ready_mono hj e) (by simp)
 | succ n ih =>
  intro l a w hfree hr hy hS H
  refine ⟨fun h=>absurd (h ▸ hr) (by simp),fun j hj=>?_⟩
  by_cases e:j=i
  ·rw [e];exact hy.wpOp hi hS ⟨fun _=>hS,H⟩
  ·have hjt:tl j=false:=behindC_not hb hr hj
   obtain ⟨hun,oj,hoj,hall⟩:=mem_ready.1 hj
   have hno:∀ d∈oj.after,Region.binds md d=true→d.on≠i:=fun d hd hbd heq=>by
    have k1:=hall d hd hbd
    have k2:=(mem_ready.1 hr).1
    rw [heq] at k1
    rcases Nat.lt_or_ge i l.size with h'|h'
    ·simp [h'] at k2 k1;rw [k2] at k1;cases k1
    ·simp [Array.getElem?_eq_none h'] at k1
   refine wpOp_mono (fun b u k=>⟨fun _=>k.2.1 hjt,ih (l.setIfInBounds j true) b u (fun m om hm hmi hmu hmn=>hfree m om hm hmi ?_ hmn) (ready_mono hr (Ne.symm e)) k.1 (k.2.1 hjt) ?_⟩)
    (wpOp_putIf hoj (hfree j oj hoj e hun hno) (fun cs b=>hsel i oi cs b hi) (fun cs b=>hsel j oj cs b hoj) hQ hy (H.2 j (ready_mono hj e)))
   ·by_cases e':j=m
    ·rw [← e'];exact hun
    ·rw [getD_set_ne true e'] at hmu;exact hmu
   ·rw [Array.setIfInBounds_comm _ _ e]
    exact k.2.2
theorem wpAnyC_take {i:Nat} {oi:Oper} {v:Value} {n:Nat} {l:Array Bool} {a:Act} {w:World} (hi:ops[i]?=some oi)
  (hs:(Region.noSelect ops&&Region.free md ops l i&&(Region.ready md ops l).contains i&&behindC md ops tl i)=true)
  (hQ:∀ c a w,Q (.panic c) (a.put oi.dst v) w→Q (.panic c) a w) (hy:YieldsIf P ops S oi v a) (hS:S w)
  (h:wpAnyC P md ops Q S tl n (l.setIfInBounds i true) (a.put oi.dst v) w):wpAnyC P md ops Q S tl (n+1) l a w:=by
 simp only [Bool.and_eq_true,decide_eq_true_eq] at hs
 obtain ⟨⟨⟨h1,h2⟩,h3⟩,h5⟩:=hs
 exact wpAnyC_first hi (Region.noSelect_spec h1) hQ h5 n l a w (Region.free_spec hi h2) (by simpa using h3) hy hS h
theorem wpAnyC_done {l:Array Bool} {a:Act} {w:World} (hr:Region.ready md ops l=[]) (h:Q .normal a w):∀ n,wpAnyC P md ops Q S tl n l a w
 | 0=>⟨hr,h⟩
 | _+1=>⟨fun _=>h,by rw [hr];simp⟩
theorem wpAnyC_one {i:Nat} {o:Oper} {n:Nat} {l:Array Bool} {a:Act} {w:World} (hr:Region.ready md ops l=[i]) (ho:ops[i]?=some o)
  (h:∀ K:Act→World→Prop,Shut (∀ a w,(tl i=false→S w)→wpAnyC P md ops Q S tl n (l.setIfInBounds i true) a w→K a w)→if Region.wanted o (yielded ops a.tmps)=true then Oper.wp P o a w K Q else K (a.put o.dst undef) w):wpAnyC P md ops Q S tl (n+1) l a w :=
 ⟨fun h0=>absurd (hr ▸ h0) (by simp),fun j hj=>by
  rw [hr,List.mem_singleton] at hj
  rw [hj]
  exact wpOp_step ho fun K hK=>h K fun a w h1 h2=>hK a w ⟨h1,h2⟩⟩
theorem wpAnyC_two {i j:Nat} {o p:Oper} {n:Nat} {l:Array Bool} {a:Act} {w:World} (hr:Region.ready md ops l=[i,j]) (ho:ops[i]?=some o) (hp:ops[j]?=some p)
  (h:∀ K:Act→World→Prop,Shut (∀ a w,(tl i=false→S w)→wpAnyC P md ops Q S tl n (l.setIfInBounds i true) a w→K a w)→if Region.wanted o (yielded ops a.tmps)=true then Oper.wp P o a w K Q else K (a.put o.dst undef) w)
  (h':∀ K:Act→World→Prop,Shut (∀ a w,(tl j=false→S w)→wpAnyC P md ops Q S tl n (l.setIfInBounds j true) a w→K a w)→if Region.wanted p (yielded ops a.tmps)=true then Oper.wp P p a w K Q else K (a.put p.dst undef) w):wpAnyC P md ops Q S tl (n+1) l a w :=
 ⟨fun h0=>absurd (hr ▸ h0) (by simp),fun x hx=>by
  rw [hr] at hx
  rcases List.mem_cons.1 hx with hx|hx
  ·rw [hx];exact wpOp_step ho fun K hK=>h K fun a w h1 h2=>hK a w ⟨h1,h2⟩
  ·rw [List.mem_singleton.1 hx];exact wpOp_step hp fun K hK=>h' K fun a w h1 h2=>hK a w ⟨h1,h2⟩⟩
theorem wp_region_C {id:Nat} {a:Act} {w:World} (tl:Nat→Bool) (S:World→Prop) (hm:P.follows .mixedOrders=true) (hS:S w.drew)
  (h:S w.drew→wpAnyC P .any ops Q S tl ops.size (Array.replicate ops.size false) a w.drew):(Code.region id ops true).wp P Q a w :=
 wp_region_any hm (wpAny_of_C _ _ _ _ (h hS))
theorem tkC (i:Nat) {oi:Oper} {v:Value} {n:Nat} {l l':Array Bool} {a a':Act} {w:World} (hi:ops[i]?=some oi:=by rfl)
  (hs:(Region.noSelect ops&&Region.free md ops l i&&(Region.ready md ops l).contains i&&behindC md ops tl i)=true:=by kernel_rfl)
  (hw:Region.wanted oi (yielded ops a.tmps)=true:=by kernel_rfl)
  (hr:∀ w,S w→(execOp a.eval oi).run P w=.ok (.value v) w:=by (intro w hSw;(try dsimp only at hSw);go_simp;(try with_reducible rfl)))
  (hQ:∀ c a w,Q (.panic c) (a.put oi.dst v) w→Q (.panic c) a w:=by exact fun _ _ _ h=>h) (hS:S w:=by assumption)
  (hl:l.setIfInBounds i true=l':=by ((try simp only [Act.put,List.getElem_toArray,List.getElem_cons_zero,List.getElem_cons_succ,List.setIfInBounds_toArray,List.set_cons_zero,List.set_cons_succ]);(try rfl))) (ha:a.put oi.dst v=a':=by ((try simp only [Act.put,List.getElem_toArray,List.getElem_cons_zero,List.getElem_cons_succ,List.setIfInBounds_toArray,List.set_cons_zero,List.set_cons_succ]);(try rfl)))
  (h:wpAnyC P md ops Q S tl n l' a' w):wpAnyC P md ops Q S tl (n+1) l a w:=by
 subst hl ha
 exact wpAnyC_take hi hs hQ (.inl ⟨hw,hr⟩) hS h
theorem tuC (i:Nat) {oi:Oper} {n:Nat} {l l':Array Bool} {a a':Act} {w:World} (hi:ops[i]?=some oi:=by rfl)
  (hs:(Region.noSelect ops&&Region.free md ops l i&&(Region.ready md ops l).contains i&&behindC md ops tl i)=true:=by kernel_rfl)
  (hw:Region.wanted oi (yielded ops a.tmps)=false:=by kernel_rfl)
  (hQ:∀ c a w,Q (.panic c) (a.put oi.dst undef) w→Q (.panic c) a w:=by exact fun _ _ _ h=>h) (hS:S w:=by assumption)
  (hl:l.setIfInBounds i true=l':=by ((try simp only [Act.put,List.getElem_toArray,List.getElem_cons_zero,List.getElem_cons_succ,List.setIfInBounds_toArray,List.set_cons_zero,List.set_cons_succ]);(try rfl))) (ha:a.put oi.dst undef=a':=by ((try simp only [Act.put,List.getElem_toArray,List.getElem_cons_zero,List.getElem_cons_succ,List.setIfInBounds_toArray,List.set_cons_zero,List.set_cons_succ]);(try rfl)))
  (h:wpAnyC P md ops Q S tl n l' a' w):wpAnyC P md ops Q S tl (n+1) l a w:=by
 subst hl ha
 exact wpAnyC_take hi hs hQ (.inr ⟨hw,rfl⟩) hS h
end
end Go.Proofs.YtibnehaibgbliaaGreat
namespace Go.Proofs.YtibnehaibgbliaaGreat.Mf
open Go.RowKit Go.Proofs.YtibnehaibgbliaaGreat
theorem Tryz.infoStr:(Tryz.prog.info? 9).map (fun i=>(i.zero,i.size,i.bytes))=some (some (.string ⟨#[]⟩),1,16):=by kernel_rfl
theorem strs_one' (l:List ByteArray):∀ u∈l.map Value.string,u.oneCell'=true:=by
 intro u hu
 obtain ⟨x,_,rfl⟩:=List.mem_map.1 hu
 rfl
set_option maxRecDepth 100000 in
theorem cloneE_calls (w:World) {B c:Nat} {A:Option Addr} {l:List En} (h:Reads w B 9 A l.length (l.flatMap En.cs)) (hB:B≤w.heap.size) (hn:l.length≤1099511627776) :
  Calls Tryz.prog 27 #[.slice A l.length c] w fun e w'=>∃ A' c',e=.returned (.slice A' l.length c')∧w'.ownsRow w.heap.size 85 9 (.slice A' l.length c') l.length (l.flatMap En.cs)∧Below w.heap.size w w':=by
 have hq:=fun W=>Lib.run_eql_slice_nil (P:=Tryz.prog) W 22 85 A l.length c 0 0 Tryz.underlying22
 rcases A with _|ad
 ·have hq2:∀ W,(binOp .eql 22 (.slice none l.length c) (.slice none 0 0)).run Tryz.prog W=.ok (.bool true) W:=fun W=>by rw [hq];rfl
  have hl:l.length=0:=by
   rcases Nat.eq_zero_or_pos l.length with h0|h0
   ·exact h0
   ·obtain ⟨b,off,e,_⟩:=h.2 h0
    cases e
  have HL:=Jh hl
  have HLx:Hid (l.flatMap En.cs=[]):=Jh (by obtain rfl:=List.eq_nil_of_length_eq_zero hl;rfl)
  clear hq hl h
  go_enter Tryz.func27,Tryz.ntmps27
  go_wp2
  go_ret
  exact ⟨none,0,by rw [HL.out];rfl,by rw [HL.out,HLx.out];exact World.ownsRow_nil _ _ _ _,Below.refl _ _⟩
 ·have hq2:∀ W,(binOp .eql 22 (.slice (some ad) l.length c) (.slice none 0 0)).run Tryz.prog W=.ok (.bool false) W:=fun W=>by rw [hq];rfl
  clear hq
  go_enter Tryz.func27,Tryz.ntmps27
  go_wp2_with (at_builtin;go_must (refine wpList_append_sl _ rfl (.tmp 5) (.tmp 6) _ rfl w.heap.size 85 _ 9 88 Tryz.underlying22 Tryz.infoEn rfl (by omega) _ _ _ rfl (World.ownsRow_made w #[] 0 (Nat.le_refl _) (Nat.zero_le _) rfl) B (some ad) l.length c (l.flatMap En.cs) rfl (Reads.to h ((Below.refl B w).alloc hB _) (Nat.le_refl _)) (ecs_one l) (by unfold maxLen;omega) (by omega) (by simp) ?_))
  intro A' c' w1 hc1 hc2 hrd hbel hown _ _
  have hown2:w1.ownsRow w.heap.size 85 9 (.slice A' l.length c') l.length (l.flatMap En.cs):=by simpa using hown
  go_wp2
  go_ret
  exact ⟨A',c',by simp,hown2,((Below.refl _ _).alloc (Nat.le_refl _) _).trans hbel⟩
set_option maxRecDepth 100000 in
theorem cloneS_calls (w:World) {B c:Nat} {A:Option Addr} {l:List ByteArray} (h:Reads w B 1 A l.length (l.map Value.string)) (hB:B≤w.heap.size) (hn:l.length≤1099511627776) :
  Calls Tryz.prog 28 #[.slice A l.length c] w fun e w'=>∃ A' c',e=.returned (.slice A' l.length c')∧w'.ownsRow w.heap.size 9 1 (.slice A' l.length c') l.length (l.map Value.string)∧Below w.heap.size w w':=by
 have hq:=fun W=>Lib.run_eql_slice_nil (P:=Tryz.prog) W 23 9 A l.length c 0 0 Tryz.underlying23
 rcases A with _|ad
 ·have hq2:∀ W,(binOp .eql 23 (.slice none l.length c) (.slice none 0 0)).run Tryz.prog W=.ok (.bool true) W:=fun W=>by rw [hq];rfl
  have hl:l.length=0:=by
   rcases Nat.eq_zero_or_pos l.length with h0|h0
   ·exact h0
   ·obtain ⟨b,off,e,_⟩:=h.2 h0
    cases e
  have HL:=Jh hl
  have HLx:Hid (l.map Value.string=[]):=Jh (by obtain rfl:=List.eq_nil_of_length_eq_zero hl;rfl)
  clear hq hl h
  go_enter Tryz.func28,Tryz.ntmps28
  go_wp2
  go_ret
  exact ⟨none,0,by rw [HL.out];rfl,by rw [HL.out,HLx.out];exact World.ownsRow_nil _ _ _ _,Below.refl _ _⟩
 ·have hq2:∀ W,(binOp .eql 23 (.slice (some ad) l.length c) (.slice none 0 0)).run Tryz.prog W=.ok (.bool false) W:=fun W=>by rw [hq];rfl
  clear hq
  go_enter Tryz.func28,Tryz.ntmps28
  go_wp2_with (at_builtin;go_must (refine wpList_append_sl _ rfl (.tmp 5) (.tmp 6) _ rfl w.heap.size 9 _ 1 16 Tryz.underlying23 Tryz.infoStr rfl (by omega) _ _ _ rfl (World.ownsRow_made w #[] 0 (Nat.le_refl _) (Nat.zero_le _) rfl) B (some ad) l.length c (l.map Value.string) rfl (Reads.to h ((Below.refl B w).alloc hB _) (Nat.le_refl _)) (strs_one' l) (by unfold maxLen;omega) (by omega) (by simp) ?_))
  intro A' c' w1 hc1 hc2 hrd hbel hown _ _
  have hown2:w1.ownsRow w.heap.size 9 1 (.slice A' l.length c') l.length (l.map Value.string):=by simpa using hown
  go_wp2
  go_ret
  exact ⟨A',c',by simp,hown2,((Below.refl _ _).alloc (Nat.le_refl _) _).trans hbel⟩
def newS (x:Ed) (tries wait:Int):Cst:=⟨x,tries,wait,0,0,0,false,false,zeroM,zeroM,0,0⟩
set_option maxRecDepth 100000 in
set_option maxHeartbeats 3200000 in
theorem new_bad (w:World) {x:Ed} {q:Pd} (tries wait:Int) (h:tries<1∨8<tries∨wait<0∨1099511627776<wait) :
  Calls Tryz.prog 9 #[edV x q,.int .i64 tries,.int .i64 wait] w fun e w'=>e=.returned (.pointer none)∧Below w.heap.size w w':=by
 by_cases h1:tries<1
 ·have d1:decide (tries<1)=true:=dct h1
  go_enter Tryz.func9,Tryz.ntmps9
  go_wp2
  go_ret
  exact ⟨rfl,(Below.refl _ _).alloc (Nat.le_refl _) _⟩
 have d1:decide (tries<1)=false:=dcf h1
 by_cases h2:8<tries
 ·have d2:decide (8<tries)=true:=dct h2
  go_enter Tryz.func9,Tryz.ntmps9
  go_wp2
  go_ret
  exact ⟨rfl,(Below.refl _ _).alloc (Nat.le_refl _) _⟩
 have d2:decide (8<tries)=false:=dcf h2
 by_cases h3:wait<0
 ·have d3:decide (wait<0)=true:=dct h3
  go_enter Tryz.func9,Tryz.ntmps9
  go_wp2
  go_ret
  exact ⟨rfl,(Below.refl _ _).alloc (Nat.le_refl _) _⟩
 have d3:decide (wait<0)=false:=dcf h3
 have d4:decide (1099511627776<wait)=true:=dct (by omega)
 go_enter Tryz.func9,Tryz.ntmps9
 go_wp2
 go_ret
 exact ⟨rfl,(Below.refl _ _).alloc (Nat.le_refl _) _⟩
set_option maxRecDepth 100000 in
set_option maxHeartbeats 6400000 in
theorem newP_calls (w:World) {B:Nat} {x:Ed} {q:Pd} (h:Edi w B x q) (hB:B≤w.heap.size) (hge:Ge x) (tries wait:Int) (h1:1≤tries) (h2:tries≤8) (h3:0≤wait) (h4:wait≤1099511627776) :
  Calls Tryz.prog 9 #[edV x q,.int .i64 tries,.int .i64 wait] w fun e w'=>∃ g q',e=.returned (.pointer (some ⟨g,0,none⟩))∧CmAt w' w.heap.size g (newS x tries wait) q' nilP nilP∧Below w.heap.size w w':=by
 have d1:decide (tries<1)=false:=dcf (by omega)
 have d2:decide (8<tries)=false:=dcf (by omega)
 have d3:decide (wait<0)=false:=dcf (by omega)
 have d4:decide (1099511627776<wait)=false:=dcf (by omega)
 have HE:=Jh h
 have l1:=hge.a
 have l2:=hge.d_
 have l3:=hge.m_
 clear h
 go_enter Tryz.func9,Tryz.ntmps9
 go_upto_region 3 with fail
 have hbk:=Blk.new w 28 #[.slice q.AA x.add.length q.cA,.slice q.AD x.drop.length q.cD,.slice q.AM x.marks.length q.cM,.int .i64 x.cut,.int .i64 x.fence,.int .i64 x.by_.agent,.int .i64 x.by_.life,.int .i64 x.by_.count]
 have hba:=(Below.refl w.heap.size w).alloc (Nat.le_refl _) (.cells #[.slice q.AA x.add.length q.cA,.slice q.AD x.drop.length q.cD,.slice q.AM x.marks.length q.cM,.int .i64 x.cut,.int .i64 x.fence,.int .i64 x.by_.agent,.int .i64 x.by_.life,.int .i64 x.by_.count] 28)
 obtain ⟨gx,hgx⟩:∃ gx,gx=w.heap.size:=⟨_,rfl⟩
 rw [← hgx] at hbk ⊢
 have HGX:=Jh hgx
 clear hgx
 generalize w.alloc (.cells #[.slice q.AA x.add.length q.cA,.slice q.AD x.drop.length q.cD,.slice q.AM x.marks.length q.cM,.int .i64 x.cut,.int .i64 x.fence,.int .i64 x.by_.agent,.int .i64 x.by_.life,.int .i64 x.by_.count] 28)=wa at *
 have HBk:=Jh hbk
 have HBa:=Jh hba
 clear hbk hba
 have Hc:Hid (∀ W,Below wa.heap.size wa W→W.cell? ⟨gx,0,none⟩=some (.slice q.AA x.add.length q.cA)∧W.cell? ⟨gx,1,none⟩=some (.slice q.AD x.drop.length q.cD)∧W.cell? ⟨gx,2,none⟩=some (.slice q.AM x.marks.length q.cM)):=Jh fun W hW=>by
  have h9:=HBk.out.below hW HBk.out.lt
  exact ⟨h9.cell 0,h9.cell 1,h9.cell 2⟩
 have HEa:Hid (∀ W,Below wa.heap.size wa W→Edi W B x q):=Jh fun W hW=>HE.out.below ((HBa.out.trans (hW.mono HBa.out.size)).mono hB)
 have HC1:=Jh fun W (hW:Below wa.heap.size wa W)=>cloneE_calls W (c:=q.cA) (HEa.out W hW).ra (by have:=hW.size;have:=HBa.out.size;omega) (by omega)
 have HC2:=Jh fun W (hW:Below wa.heap.size wa W)=>cloneS_calls W (c:=q.cD) (HEa.out W hW).rd (by have:=hW.size;have:=HBa.out.size;omega) (by omega)
 have HC3:=Jh fun W (hW:Below wa.heap.size wa W)=>cloneM_calls W (c:=q.cM) (HEa.out W hW).rm (by have:=hW.size;have:=HBa.out.size;omega) (by omega)
 have HW0:Hid (Below wa.heap.size wa wa.drew):=Jh (below_drewN_ (Below.refl _ _) 1)
 refine wp_region_C (fun i=>i == 10||i == 11||i == 12||i == 13||i == 14) (fun w'=>w'.cell? ⟨gx,0,none⟩=some (.slice q.AA x.add.length q.cA)∧w'.cell? ⟨gx,1,none⟩=some (.slice q.AD x.drop.length q.cD)∧w'.cell? ⟨gx,2,none⟩=some (.slice q.AM x.marks.length q.cM)) (by kernel_rfl) (Hc.out _ HW0.out) (fun hHeld=>?_)
 generalize wa.drew=u0 at *
 apply tkC 0
 apply tkC 1
 apply tkC 3
 apply tkC 4
 apply tkC 6
 apply tkC 7
 refine wpAnyC_one (i:=2) (by kernel_rfl) rfl (fun K hK=>?_);go_simp
 refine (HC1.out u0 HW0.out).mono ?_
 rintro en u1 ⟨A1,c1,rfl,ho1,hb1⟩
 have HB1:=Jh (HW0.out.trans (hb1.mono HW0.out.size))
 have hS1:=Hc.out _ HB1.out
 refine hK.out _ _ (fun _=>hS1) ?_
 have HO1:=Jh ho1
 clear hK K hHeld hb1 ho1
 (try simp only [Act.put,List.getElem_toArray,List.getElem_cons_zero,List.getElem_cons_succ,List.setIfInBounds_toArray,List.set_cons_zero,List.set_cons_succ])
 apply tkC 9
 refine wpAnyC_one (i:=5) (by kernel_rfl) rfl (fun K hK=>?_);go_simp
 refine (HC2.out u1 HB1.out).mono ?_
 rintro en u2 ⟨A2,c2,rfl,ho2,hb2⟩
 have HB2:=Jh (HB1.out.trans (hb2.mono HB1.out.size))
 have hS2:=Hc.out _ HB2.out
 refine hK.out _ _ (fun _=>hS2) ?_
 have HO2:=Jh ho2
 have HO12:=Jh (own_below HO1.out hb2)
 have hsz1:=HB1.out.size
 clear hK K hS1 hb2 ho2 HB1 HO1
 (try simp only [Act.put,List.getElem_toArray,List.getElem_cons_zero,List.getElem_cons_succ,List.setIfInBounds_toArray,List.set_cons_zero,List.set_cons_succ])
 refine wpAnyC_one (i:=8) (by kernel_rfl) rfl (fun K hK=>?_);go_simp
 refine (HC3.out u2 HB2.out).mono ?_
 rintro en u3 ⟨A3,c3,rfl,ho3,hb3⟩
 have HB3:=Jh (HB2.out.trans (hb3.mono HB2.out.size))
 have hS3:=Hc.out _ HB3.out
 refine hK.out _ _ (fun _=>hS3) ?_
 have HO3:=Jh ho3
 have HO13:=Jh (own_below HO12.out hb3)
 have HO23:=Jh (own_below HO2.out hb3)
 have hsz2:=HB2.out.size
 clear hK K hS2 hb3 ho3 HB2 HO12 HO2
 (try simp only [Act.put,List.getElem_toArray,List.getElem_cons_zero,List.getElem_cons_succ,List.setIfInBounds_toArray,List.set_cons_zero,List.set_cons_succ])
 have HBk3:=Jh (HBk.out.below HB3.out HBk.out.lt)
 have HB03:Hid (Below w.heap.size w u3):=Jh (HBa.out.trans (HB3.out.mono HBa.out.size))
 have f0:=HBk3.out.frozen 0
 have f1:=HBk3.out.frozen 1
 have f2:=HBk3.out.frozen 2
 clear HC1 HC2 HC3 HEa Hc HB3
 have b1:=HBk3.out.set_ 0 (.slice A1 x.add.length c1)
 have b2:=b1.set_ 1 (.slice A2 x.drop.length c2)
 have b3:=b2.set_ 2 (.slice A3 x.marks.length c3)
 simp only [List.setIfInBounds_toArray,List.set_cons_zero,List.set_cons_succ] at b1 b2 b3
 have g1:=b1.frozen 1
 have g2:=b2.frozen 2
 have HBz:=Jh b3
 have HBl:Hid (Below w.heap.size w (((u3.setCell ⟨gx,0,none⟩ (.slice A1 x.add.length c1)).setCell ⟨gx,1,none⟩ (.slice A2 x.drop.length c2)).setCell ⟨gx,2,none⟩ (.slice A3 x.marks.length c3))):=Jh (((HB03.out.setCell (p:=⟨gx,0,none⟩) (show w.heap.size≤gx by have:=HGX.out;omega) _).setCell (p:=⟨gx,1,none⟩) (show w.heap.size≤gx by have:=HGX.out;omega) _).setCell (p:=⟨gx,2,none⟩) (show w.heap.size≤gx by have:=HGX.out;omega) _)
 clear b1 b2 b3
 have HEd:Hid (Edo (((u3.setCell ⟨gx,0,none⟩ (.slice A1 x.add.length c1)).setCell ⟨gx,1,none⟩ (.slice A2 x.drop.length c2)).setCell ⟨gx,2,none⟩ (.slice A3 x.marks.length c3)) w.heap.size x ⟨A1,c1,A2,c2,A3,c3⟩):=Jh (by
  have hon:Only gx u3 (((u3.setCell ⟨gx,0,none⟩ (.slice A1 x.add.length c1)).setCell ⟨gx,1,none⟩ (.slice A2 x.drop.length c2)).setCell ⟨gx,2,none⟩ (.slice A3 x.marks.length c3)):=(((Only.refl gx u3).setCell (.inl rfl) _).setCell (.inl rfl) _).setCell (.inl rfl) _
  have hw0:=HW0.out.size
  have hwa:=HBa.out.size
  exact (Edo.only (⟨own_base HO13.out (by omega),own_base HO23.out (by omega),own_base HO3.out (by omega)⟩:Edo u3 w.heap.size x ⟨A1,c1,A2,c2,A3,c3⟩) hon HBk3.out (by decide) (by decide) (by decide)))
 refine wpAnyC_one (i:=10) (by kernel_rfl) rfl (fun K hK=>?_);go_simp
 refine hK.out _ _ (fun h=>by cases h) ?_
 clear hK K
 (try simp only [Act.put,List.getElem_toArray,List.getElem_cons_zero,List.getElem_cons_succ,List.setIfInBounds_toArray,List.set_cons_zero,List.set_cons_succ])
 refine wpAnyC_one (i:=11) (by kernel_rfl) rfl (fun K hK=>?_);go_simp
 refine hK.out _ _ (fun h=>by cases h) ?_
 clear hK K
 (try simp only [Act.put,List.getElem_toArray,List.getElem_cons_zero,List.getElem_cons_succ,List.setIfInBounds_toArray,List.set_cons_zero,List.set_cons_succ])
 refine wpAnyC_one (i:=12) (by kernel_rfl) rfl (fun K hK=>?_);go_simp
 refine hK.out _ _ (fun h=>by cases h) ?_
 clear hK K
 (try simp only [Act.put,List.getElem_toArray,List.getElem_cons_zero,List.getElem_cons_succ,List.setIfInBounds_toArray,List.set_cons_zero,List.set_cons_succ])
 refine wpAnyC_one (i:=13) (by kernel_rfl) rfl (fun K hK=>?_);go_simp
 refine hK.out _ _ (fun h=>by cases h) ?_
 clear hK K
 (try simp only [Act.put,List.getElem_toArray,List.getElem_cons_zero,List.getElem_cons_succ,List.setIfInBounds_toArray,List.set_cons_zero,List.set_cons_succ])
 refine wpAnyC_one (i:=14) (by kernel_rfl) rfl (fun K hK=>?_);go_simp
 refine hK.out _ _ (fun h=>by cases h) (wpAnyC_done (by kernel_rfl) ?_ _)
 clear hK K
 generalize ((u3.setCell ⟨gx,0,none⟩ (.slice A1 x.add.length c1)).setCell ⟨gx,1,none⟩ (.slice A2 x.drop.length c2)).setCell ⟨gx,2,none⟩ (.slice A3 x.marks.length c3)=u4 at *
 have z0:=HBz.out.cell 0
 have z1:=HBz.out.cell 1
 have z2:=HBz.out.cell 2
 have z3:=HBz.out.cell 3
 have z4:=HBz.out.cell 4
 have z5:=HBz.out.cell 5
 have z6:=HBz.out.cell 6
 have z7:=HBz.out.cell 7
 simp only [List.getElem?_toArray,List.getElem?_cons_zero,List.getElem?_cons_succ] at z0 z1 z2 z3 z4 z5 z6 z7
 clear f0 f1 f2 g1 g2
 go_wp2
 go_ret
 exact ⟨u4.heap.size,⟨A1,c1,A2,c2,A3,c3⟩,rfl,⟨HBl.out.size,Blk.new _ _ _,HEd.out.below ((Below.refl _ _).alloc (Nat.le_refl _) _),Mow.zero _ _,Mow.zero _ _⟩,HBl.out.alloc HBl.out.size _⟩
def set7 (w:World) (g:Nat) (v0 v1 v2 v3 v4 v5 v6:Value):World:=((((((w.setCell ⟨g,0,none⟩ v0).setCell ⟨g,1,none⟩ v1).setCell ⟨g,2,none⟩ v2).setCell ⟨g,3,none⟩ v3).setCell ⟨g,4,none⟩ v4).setCell ⟨g,5,none⟩ v5).setCell ⟨g,6,none⟩ v6
theorem set7_blk {w:World} {g:Nat} {t:TypeId} {a0 a1 a2 a3 a4 a5 a6:Value} (h:Blk w g t #[a0,a1,a2,a3,a4,a5,a6]) (v0 v1 v2 v3 v4 v5 v6:Value):Blk (set7 w g v0 v1 v2 v3 v4 v5 v6) g t #[v0,v1,v2,v3,v4,v5,v6]:=by
 have:=((((((h.set_ 0 v0).set_ 1 v1).set_ 2 v2).set_ 3 v3).set_ 4 v4).set_ 5 v5).set_ 6 v6
 simpa [set7] using this
theorem set7_below {a w:World} {B g:Nat} (h:Below B a w) (hB:B≤g) (v0 v1 v2 v3 v4 v5 v6:Value):Below B a (set7 w g v0 v1 v2 v3 v4 v5 v6) :=
 ((((((h.setCell (p:=⟨g,0,none⟩) hB v0).setCell (p:=⟨g,1,none⟩) hB v1).setCell (p:=⟨g,2,none⟩) hB v2).setCell (p:=⟨g,3,none⟩) hB v3).setCell (p:=⟨g,4,none⟩) hB v4).setCell (p:=⟨g,5,none⟩) hB v5).setCell (p:=⟨g,6,none⟩) hB v6
theorem set7_only {a w:World} {k g:Nat} (h:Only k a w) (hg:a.heap.size≤g) (v0 v1 v2 v3 v4 v5 v6:Value):Only k a (set7 w g v0 v1 v2 v3 v4 v5 v6) :=
 ((((((h.setCell (p:=⟨g,0,none⟩) (.inr hg) v0).setCell (p:=⟨g,1,none⟩) (.inr hg) v1).setCell (p:=⟨g,2,none⟩) (.inr hg) v2).setCell (p:=⟨g,3,none⟩) (.inr hg) v3).setCell (p:=⟨g,4,none⟩) (.inr hg) v4).setCell (p:=⟨g,5,none⟩) (.inr hg) v5).setCell (p:=⟨g,6,none⟩) (.inr hg) v6
theorem set7_self (w:World) (g:Nat) (v0 v1 v2 v3 v4 v5 v6:Value):Only g w (set7 w g v0 v1 v2 v3 v4 v5 v6) :=
 (((((((Only.refl g w).setCell (p:=⟨g,0,none⟩) (.inl rfl) v0).setCell (p:=⟨g,1,none⟩) (.inl rfl) v1).setCell (p:=⟨g,2,none⟩) (.inl rfl) v2).setCell (p:=⟨g,3,none⟩) (.inl rfl) v3).setCell (p:=⟨g,4,none⟩) (.inl rfl) v4).setCell (p:=⟨g,5,none⟩) (.inl rfl) v5).setCell (p:=⟨g,6,none⟩) (.inl rfl) v6
theorem Sh.only_ {w w':World} {g:Nat} (h:Sh w) (ho:Only g w w') (hg:0<g):Sh w':=h.below (ho.below (B:=1) hg h.lt) (by omega)
section
variable {g:Nat}
set_option maxRecDepth 100000 in
theorem end_calls (w:World) {cs:Array Value} (h:Blk w g 92 cs) (s0 e0:Value) (h0:cs[27]?=some s0) (h1:cs[28]?=some e0) (s e:Int) :
  Calls Tryz.prog 31 #[.pointer (some ⟨g,0,none⟩),.int .i64 s,.int .i64 e] w fun en w'=>en=.returned (.tuple #[])∧w'=(w.setCell ⟨g,27,none⟩ (.int .i64 s)).setCell ⟨g,28,none⟩ (.int .i64 e):=by
 have z0:=h.cell 27
 have z1:=(h.set_ 27 (.int .i64 s)).cell 28
 have f0:=h.frozen 27
 have f1:=(h.set_ 27 (.int .i64 s)).frozen 28
 have z1':=h.cell 28
 rw [h0] at z0
 rw [h1] at z1'
 rw [Array.getElem?_setIfInBounds_ne (by decide),h1] at z1
 clear h h0 h1
 go_enter Tryz.func31,Tryz.ntmps31
 go_wp2
 go_end0
 exact ⟨rfl,rfl⟩
end
abbrev zeroCall:Array Value:=#[.int .i64 0,.string ⟨#[]⟩,.slice none 0 0,.int .i64 0,.int .i64 0,.int .i64 0,.int .i64 0]
abbrev getCall:Array Value:=#[.int .i64 3,.string ⟨#[109,97,110,105,102,101,115,116]⟩,.slice none 0 0,.int .i64 0,.int .i64 0,.int .i64 0,.int .i64 0]
abbrev putCall (A:Option Addr) (n c:Nat) (ver:Int):Array Value:=#[.int .i64 2,.string ⟨#[109,97,110,105,102,101,115,116]⟩,.slice A n c,.int .i64 ver,.int .i64 0,.int .i64 0,.int .i64 0]
section
variable {base g:Nat} {s:Cst} {q:Pd} {pr pn:Pl}
set_option maxRecDepth 100000 in
theorem stateP_calls (w:World) (h:CmAt w base g s q pr pn) :
  Calls Tryz.prog 12 #[.pointer (some ⟨g,0,none⟩)] w fun e w'=>e=.returned (.tuple #[.int .i64 s.st,.int .i64 s.er])∧Below w.heap.size w w':=by
 have z0:=h.blk.cell 27
 have z1:=h.blk.cell 28
 simp only [List.getElem?_toArray,List.getElem?_cons_zero,List.getElem?_cons_succ] at z0 z1
 clear h
 go_enter Tryz.func12,Tryz.ntmps12
 go_wp2_with fail
 go_quiet (fail)
 go_wp2
 go_ret2
 exact ⟨rfl,below_drewN_ (Below.refl _ _) _⟩
def EncC (enc:Md→List UInt8) (er:Md→Int):Prop:=∀ (w:World) {B:Nat} {m:Md} {p:Pl},Man w B m p→B≤w.heap.size→Short m.E→Sh w→Calls Tryz.prog 30 #[mdV m p] w fun e w'=>∃ A c,e=.returned (.tuple #[.slice A (enc m).length c,.int .i64 (er m)])∧w'.ownsRow w.heap.size 5 1 (.slice A (enc m).length c) (enc m).length ((enc m).map byteV)∧Below w.heap.size w w'
def nextB (s:Cst) (now:Int):Bool:=decide (s.st=0∧s.asked=false∧¬ now<s.due)
set_option maxRecDepth 100000 in
set_option maxHeartbeats 3200000 in
theorem next_no (w:World) (h:CmAt w base g s q pr pn) (now:Int) (hn:nextB s now=false) :
  Calls Tryz.prog 10 #[.pointer (some ⟨g,0,none⟩),.int .i64 now] w fun e w'=>e=.returned (.tuple #[.agg zeroCall,.bool false])∧Below w.heap.size w w':=by
 have h2:=h.blk.alloc (.cells zeroCall 35)
 have z0:=h2.cell 27
 have z1:=h2.cell 13
 have z2:=h2.cell 11
 simp only [List.getElem?_toArray,List.getElem?_cons_zero,List.getElem?_cons_succ] at z0 z1 z2
 have hn:¬ (s.st=0∧s.asked=false∧¬ now<s.due):=of_decide_eq_false hn
 have HNo:=Jh hn
 clear h h2 hn
 generalize s.st=st at *
 generalize s.asked=asked at *
 generalize s.due=due at *
 by_cases hs:st=0
 ·have ds:(st != 0)=false:=nef hs
  cases asked
  ·have dn:decide (now<due)=true:=dct (by
    have h9:=HNo.out
    by_cases hh:now<due
    ·exact hh
    ·exact absurd ⟨hs,rfl,hh⟩ h9)
   go_enter Tryz.func10,Tryz.ntmps10
   go_wp2
   refine bodyPost_ret (results_mf rfl _ _ w.heap.size 35 zeroCall _ _ rfl rfl (Blk.new _ _ _) Tryz.underlying35 rfl (by kernel_rfl)) rfl ?_
   exact ⟨rfl,(Below.refl _ _).alloc (Nat.le_refl _) _⟩
  ·go_enter Tryz.func10,Tryz.ntmps10
   go_wp2
   refine bodyPost_ret (results_mf rfl _ _ w.heap.size 35 zeroCall _ _ rfl rfl (Blk.new _ _ _) Tryz.underlying35 rfl (by kernel_rfl)) rfl ?_
   exact ⟨rfl,(Below.refl _ _).alloc (Nat.le_refl _) _⟩
 ·have ds:(st != 0)=true:=net hs
  go_enter Tryz.func10,Tryz.ntmps10
  go_wp2
  refine bodyPost_ret (results_mf rfl _ _ w.heap.size 35 zeroCall _ _ rfl rfl (Blk.new _ _ _) Tryz.underlying35 rfl (by kernel_rfl)) rfl ?_
  exact ⟨rfl,(Below.refl _ _).alloc (Nat.le_refl _) _⟩
set_option maxRecDepth 100000 in
set_option maxHeartbeats 3200000 in
theorem next_get (w:World) (h:CmAt w base g s q pr pn) (now:Int) (hn:nextB s now=true) (hwr:s.writes=false) :
  Calls Tryz.prog 10 #[.pointer (some ⟨g,0,none⟩),.int .i64 now] w fun e w'=>e=.returned (.tuple #[.agg getCall,.bool true])∧CmAt w' base g { s with asked:=true } q pr pn∧Only g w w':=by
 have hn:s.st=0∧s.asked=false∧¬ now<s.due:=of_decide_eq_true hn
 obtain ⟨hs0,ha0,hd0⟩:=hn
 have h2:=h.blk.alloc (.cells zeroCall 35)
 have z0:=h2.cell 27
 have z1:=h2.cell 13
 have z2:=h2.cell 11
 have f1:=h2.frozen 13
 simp only [List.getElem?_toArray,List.getElem?_cons_zero,List.getElem?_cons_succ] at z0 z1 z2
 have ds:(s.st != 0)=false:=nef hs0
 have dn:decide (now<s.due)=false:=dcf hd0
 rw [ha0] at z1
 have hne:g≠w.heap.size:=by have:=h.blk.lt;omega
 have hb:=(Blk.new w 35 zeroCall).far (p:=⟨g,13,none⟩) (Ne.symm hne) (.bool true)
 have hb3:=h2.set_ 13 (.bool true)
 simp only [List.setIfInBounds_toArray,List.set_cons_zero,List.set_cons_succ] at hb3
 have HO:Hid (Only g w ((w.alloc (.cells zeroCall 35)).setCell ⟨g,13,none⟩ (.bool true))):=Jh (((Only.refl g w).alloc _).setCell (.inl rfl) _)
 have HC:Hid (CmAt ((w.alloc (.cells zeroCall 35)).setCell ⟨g,13,none⟩ (.bool true)) base g { s with asked:=true } q pr pn):=Jh (h.put HO.out (s':={ s with asked:=true }) hb3 rfl (h.read_ HO.out) (h.next_ HO.out))
 have HB:=Jh hb
 have HN:=Jh hne
 clear h h2 hb hb3 hne hs0 ha0 hd0
 go_enter Tryz.func10,Tryz.ntmps10
 go_upto_region 4 with fail
 obtain ⟨gc,hgc⟩:∃ gc,gc=w.heap.size:=⟨_,rfl⟩
 have HGc:=Jh hgc
 have HL:Hid (w.heap.size≤gc):=Jh (by omega)
 rw [← hgc] at HB HN ⊢
 clear hgc z0 z1 z2 f1
 generalize (w.alloc (.cells zeroCall 35)).setCell ⟨g,13,none⟩ (.bool true)=w2 at *
 have y14:=HC.out.blk.cell 14
 simp only [List.getElem?_toArray,List.getElem?_cons_zero,List.getElem?_cons_succ] at y14
 rw [hwr] at y14
 have hb:=HB.out
 have q0:=hb.cell 0
 have r0:=hb.frozen 0
 have q1:=hb.cell 1
 have r1:=hb.frozen 1
 have q2:=hb.cell 2
 have r2:=hb.frozen 2
 have q3:=hb.cell 3
 have r3:=hb.frozen 3
 have q4:=hb.cell 4
 have r4:=hb.frozen 4
 have q5:=hb.cell 5
 have r5:=hb.frozen 5
 have q6:=hb.cell 6
 have r6:=hb.frozen 6
 simp only [List.getElem?_toArray,List.getElem?_cons_zero,List.getElem?_cons_succ] at q0 q1 q2 q3 q4 q5 q6
 clear hb
 go_wp2
 have hs:=set7_blk HB.out (.int .i64 3) (.string ⟨#[109,97,110,105,102,101,115,116]⟩) (.slice none 0 0) (.int .i64 0) (.int .i64 0) (.int .i64 0) (.int .i64 0)
 refine bodyPost_ret (results_mf rfl _ _ gc 35 getCall _ _ rfl rfl hs Tryz.underlying35 rfl (by kernel_rfl)) rfl ?_
 exact ⟨rfl,HC.out.other (set7_self _ _ _ _ _ _ _ _ _) HB.out (by decide) (by decide) (by decide) (by decide) (by decide),set7_only HO.out HL.out _ _ _ _ _ _ _⟩
set_option maxRecDepth 100000 in
set_option maxHeartbeats 3200000 in
theorem next_put {enc:Md→List UInt8} {er:Md→Int} (henc:EncC enc er) (hb0:0<base) (w:World) (h:CmAt w base g s q pr pn) (now:Int) (hn:nextB s now=true) (hwr:s.writes=true) (hg:Gd s.next) (hm:Sh w) :
  Calls Tryz.prog 10 #[.pointer (some ⟨g,0,none⟩),.int .i64 now] w fun e w'=>∃ A c,e=.returned (.tuple #[.agg (putCall A (enc s.next).length c s.ver),.bool true])∧w'.ownsRow w.heap.size 5 1 (.slice A (enc s.next).length c) (enc s.next).length ((enc s.next).map byteV)∧CmAt w' base g { s with asked:=true } q pr pn∧Only g w w':=by
 have HM:=Jh hm
 have hn:s.st=0∧s.asked=false∧¬ now<s.due:=of_decide_eq_true hn
 obtain ⟨hs0,ha0,hd0⟩:=hn
 have h2:=h.blk.alloc (.cells zeroCall 35)
 have z0:=h2.cell 27
 have z1:=h2.cell 13
 have z2:=h2.cell 11
 have f1:=h2.frozen 13
 simp only [List.getElem?_toArray,List.getElem?_cons_zero,List.getElem?_cons_succ] at z0 z1 z2
 have ds:(s.st != 0)=false:=nef hs0
 have dn:decide (now<s.due)=false:=dcf hd0
 rw [ha0] at z1
 have hne:g≠w.heap.size:=by have:=h.blk.lt;omega
 have hb:=(Blk.new w 35 zeroCall).far (p:=⟨g,13,none⟩) (Ne.symm hne) (.bool true)
 have hb3:=h2.set_ 13 (.bool true)
 simp only [List.setIfInBounds_toArray,List.set_cons_zero,List.set_cons_succ] at hb3
 have HO:Hid (Only g w ((w.alloc (.cells zeroCall 35)).setCell ⟨g,13,none⟩ (.bool true))):=Jh (((Only.refl g w).alloc _).setCell (.inl rfl) _)
 have HC:Hid (CmAt ((w.alloc (.cells zeroCall 35)).setCell ⟨g,13,none⟩ (.bool true)) base g { s with asked:=true } q pr pn):=Jh (h.put HO.out (s':={ s with asked:=true }) hb3 rfl (h.read_ HO.out) (h.next_ HO.out))
 have HB:=Jh hb
 have HN:=Jh hne
 clear h h2 hb hb3 hne hs0 ha0 hd0
 go_enter Tryz.func10,Tryz.ntmps10
 go_upto_region 4 with fail
 obtain ⟨gc,hgc⟩:∃ gc,gc=w.heap.size:=⟨_,rfl⟩
 have HGc:=Jh hgc
 have HL:Hid (w.heap.size≤gc):=Jh (by omega)
 rw [← hgc] at HB HN ⊢
 clear hgc z0 z1 z2 f1
 generalize (w.alloc (.cells zeroCall 35)).setCell ⟨g,13,none⟩ (.bool true)=w2 at *
 have y14:=HC.out.blk.cell 14
 simp only [List.getElem?_toArray,List.getElem?_cons_zero,List.getElem?_cons_succ] at y14
 rw [hwr] at y14
 have HEn:=Jh (henc w2 (HC.out.nx.good hg) (Nat.le_refl _) hg.short (Sh.only_ HM.out HO.out (by have:=HC.out.low;omega)))
 have y21:=HC.out.blk.cell 21
 have y22:=HC.out.blk.cell 22
 have y23:=HC.out.blk.cell 23
 have y24:=HC.out.blk.cell 24
 have y25:=HC.out.blk.cell 25
 have y26:=HC.out.blk.cell 26
 simp only [List.getElem?_toArray,List.getElem?_cons_zero,List.getElem?_cons_succ] at y21 y22 y23 y24 y25 y26
 go_wp2_with fail
 refine HEn.out.mono ?_
 rintro e w3 ⟨A3,c3,rfl,ho3,hb3⟩
 have HC3:=Jh (HC.out.below hb3)
 have hb:=HB.out.below hb3 HB.out.lt
 have HB3:=Jh hb
 have HO3:Hid (Only g w w3):=Jh (HO.out.trans (Only.of_below hb3))
 have HW3:=Jh (own_base (base':=w.heap.size) ho3 HO.out.size)
 have y12:=HC3.out.blk.cell 12
 simp only [List.getElem?_toArray,List.getElem?_cons_zero,List.getElem?_cons_succ] at y12
 clear HEn ho3 hb3 y14 y21 y22 y23 y24 y25 y26
 have q0:=hb.cell 0
 have r0:=hb.frozen 0
 have q1:=hb.cell 1
 have r1:=hb.frozen 1
 have q2:=hb.cell 2
 have r2:=hb.frozen 2
 have q3:=hb.cell 3
 have r3:=hb.frozen 3
 have q4:=hb.cell 4
 have r4:=hb.frozen 4
 have q5:=hb.cell 5
 have r5:=hb.frozen 5
 have q6:=hb.cell 6
 have r6:=hb.frozen 6
 simp only [List.getElem?_toArray,List.getElem?_cons_zero,List.getElem?_cons_succ] at q0 q1 q2 q3 q4 q5 q6
 clear hb
 go_wp2
 have hs:=set7_blk HB3.out (.int .i64 2) (.string ⟨#[109,97,110,105,102,101,115,116]⟩) (.slice A3 (enc s.next).length c3) (.int .i64 s.ver) (.int .i64 0) (.int .i64 0) (.int .i64 0)
 refine bodyPost_ret (results_mf rfl _ _ gc 35 (putCall A3 (enc s.next).length c3 s.ver) _ _ rfl rfl hs Tryz.underlying35 rfl (by kernel_rfl)) rfl ?_
 exact ⟨A3,c3,rfl,own_free HW3.out (set7_self _ _ _ _ _ _ _ _ _) HB3.out (by decide),HC3.out.other (set7_self _ _ _ _ _ _ _ _ _) HB3.out (by decide) (by decide) (by decide) (by decide) (by decide),set7_only HO3.out HL.out _ _ _ _ _ _ _⟩
end
end Go.Proofs.YtibnehaibgbliaaGreat.Mf
namespace Go.Proofs.YtibnehaibgbliaaGreat.Mf
open Go.RowKit Go.Proofs.YtibnehaibgbliaaGreat Go.Sort Go.Shelf
section
variable {P:Program} {k:TypeId} {κ β:Type} [DecidableEq κ] {K:KeyT P k κ} {ev:β→Value} {w w':World} {b r:Nat} {l todo:List (κ × β)} {t e:TypeId} {x:κ}
theorem RangeAt.drop_run (h:RangeAt K ev w b r l todo) (ht:P.underlying t=some (.map k e)) (hx:K.ok x) (hnt:∀ p∈todo,p.1≠x) (ty:TypeId) :
  ∃ w',(Builtin.delete_ #[t,k] ty #[.map (some b),K.val x]).run P w=.ok (.tuple #[]) w'∧RangeAt K ev w' b r (mdel l x) todo∧w.grownBy w' (some b)∧w'.heap.size=w.heap.size:=by
 obtain ⟨left,hr,rfl,hok⟩:=h
 obtain ⟨w',cnt',hrun,r1,r2,r3⟩:=hr.drop K.keyed ht (K.key hx) ty
 rw [enc_del] at r1
 have hc:=ranges_cnt r1
 have e1:(mdel l x).filter (fun p=>left (K.lit p.1)&&!(K.lit p.1).sameKey (K.lit x))=l.filter fun p=>left (K.lit p.1):=by
  unfold mdel
  rw [List.filter_filter]
  refine List.filter_congr fun p hp=>?_
  rw [lit_sameKey]
  cases hl:left (K.lit p.1)
  ·simp
  ·have:p.1≠x:=hnt p (List.mem_filter.2 ⟨hp,hl⟩)
   simp [this]
 rw [List.filter_map,List.length_map] at hc
 have hc2:cnt'=(l.filter fun p=>left (K.lit p.1)).length:=by rw [hc,← e1];rfl
 refine ⟨w',hrun,⟨fun z=>left z&&!z.sameKey (K.lit x),?_,e1.symm,fun p hp=>hok p (List.mem_filter.1 hp).1⟩,r3.grown,?_⟩
 ·rw [← hc2]
  obtain ⟨es,clock,since,seen,c0,hb,F,hs,hD,rest⟩:=r1
  refine ⟨es,clock,since,seen,c0,hb,F,?_,hD,rest⟩
  injection hD with hD
  rw [← List.length_map (f:=Go.Proofs.YtibnehaibgbliaaGreat.encE K ev),hD,length_sorted]
  simp
 ·obtain ⟨es,clock,es',clock',hb,rfl⟩:=r3
  simp [ChangeMaps.setBlock]
end
theorem pw_one {l:List (ByteArray × En)} (hn:l.Pairwise fun p q=>p.1≠q.1) {p q:ByteArray × En} (hp:p∈l) (hq:q∈l) (h:p.1=q.1):p=q:=by
 obtain ⟨i,hi,rfl⟩:=List.getElem_of_mem hp
 obtain ⟨j,hj,rfl⟩:=List.getElem_of_mem hq
 rw [List.pairwise_iff_getElem] at hn
 rcases Nat.lt_trichotomy i j with c|c|c
 ·exact absurd h (hn i j hi hj c)
 ·subst c;rfl
 ·exact absurd h.symm (hn j i hj hi c)
theorem old_calls (s:ByteArray) (x:En) (w:World) {gm:Nat} {cut:Int} (hc:w.cell? ⟨gm,1,none⟩=some (.int .i64 cut)):Calls Tryz.prog 103 #[.string s,enV x,.pointer (some ⟨gm,0,none⟩)] w fun e w'=>e=.returned (.bool (decide (x.window<cut)))∧w.grownBy w' none:=by
 have hlt:=World.block_lt_of_cell? w _ hc
 have hc2:(w.alloc (.cells #[.string x.key,.int .i64 x.window,.string x.part,.int .i64 x.first,.int .i64 x.last,.int .i64 x.rows,.int .i64 x.size,.int .u32 x.sum,.int .i64 x.born] 85)).cell? ⟨gm,1,none⟩=some (.int .i64 cut):=(World.cell?_alloc_lt w _ _ hlt).trans hc
 go_enter Tryz.func103,Tryz.ntmps103
 go_wp2
 go_ret
 exact ⟨rfl,below_grown ((Below.refl _ _).alloc (Nat.le_refl _) _) _⟩
theorem cut_keep {l todo:List (ByteArray × En)} {q:ByteArray × En→Bool} {x:ByteArray} {y:En} (hn:l.Pairwise fun p q=>p.1≠q.1) (hm:(x,y)∈l) (hq:q (x,y)=true) :
  (l.filter fun p=>q p||decide (∃ z∈todo,z.1=p.1))=l.filter fun p=>q p||decide (∃ z∈mdel todo x,z.1=p.1):=by
 refine List.filter_congr fun p hp=>?_
 by_cases e:p.1=x
 ·have:p=(x,y):=pw_one hn hp hm e
  rw [this,hq];rfl
 ·congr 1
  refine decide_eq_decide.2 ⟨?_,?_⟩
  ·rintro ⟨z,hz,he⟩
   exact ⟨z,List.mem_filter.2 ⟨hz,by rw [he];simpa using e⟩,he⟩
  ·rintro ⟨z,hz,he⟩
   exact ⟨z,(List.mem_filter.1 hz).1,he⟩
theorem cut_drop {l todo:List (ByteArray × En)} {q:ByteArray × En→Bool} {x:ByteArray} {y:En} (hn:l.Pairwise fun p q=>p.1≠q.1) (hm:(x,y)∈l) (hq:q (x,y)=false) :
  mdel (l.filter fun p=>q p||decide (∃ z∈todo,z.1=p.1)) x=l.filter fun p=>q p||decide (∃ z∈mdel todo x,z.1=p.1):=by
 unfold mdel
 rw [List.filter_filter]
 refine List.filter_congr fun p hp=>?_
 by_cases e:p.1=x
 ·have:p=(x,y):=pw_one hn hp hm e
  rw [this,hq]
  have h2:¬ ∃ z∈todo.filter (fun p=>decide (p.1≠x)),z.1=(x,y).1:=by
   rintro ⟨z,hz,he⟩
   have:=(List.mem_filter.1 hz).2
   simp at this
   exact this he
  rw [dcf h2]
  simp
 ·have e2:decide (p.1≠x)=true:=by simpa using e
  rw [e2,Bool.true_and]
  congr 1
  refine decide_eq_decide.2 ⟨?_,?_⟩
  ·rintro ⟨z,hz,he⟩
   exact ⟨z,List.mem_filter.2 ⟨hz,by rw [he];simpa using e⟩,he⟩
  ·rintro ⟨z,hz,he⟩
   exact ⟨z,(List.mem_filter.1 hz).1,he⟩
set_option maxRecDepth 100000 in
set_option maxHeartbeats 1600000 in
theorem cutM_calls (w:World) {gm b:Nat} {cut:Int} {l:List (ByteArray × En)} (h:MapAt kS enV w b l) (hc:w.cell? ⟨gm,1,none⟩=some (.int .i64 cut)) (hne:gm≠b) :
  Calls Tryz.prog 102 #[.map (some b),.func (.func 103) #[] #[.pointer (some ⟨gm,0,none⟩)]] w fun e w'=>e=.returned (.tuple #[])∧MapAt kS enV w' b (l.filter fun p=>!decide (p.2.window<cut))∧w.grownBy w' (some b):=by
 have hgm:=World.block_lt_of_cell? w _ hc
 have HM:=Jh h
 have HN:=Jh h.nodup
 have HU:=Jh Tryz.underlying158
 have eg:∀ args w,(callFunc 103 args).run Tryz.prog w=.ok (.enter 103 args) w:=enters_of Tryz.func103 (by kernel_rfl) rfl
 have HC:=Jh hc
 have hbl:=h.lt_
 have HRZ:=Jh (Nat.le_refl w.heap.size)
 have HGM:=Jh hgm
 clear h hc hgm
 go_enter Tryz.func102,Tryz.ntmps102
 go_wp2_with (at_range;go_must (refine wpList_range _ rfl _ rfl HM.out HU.out rfl ?_))
 intro w1 hr1 hg1 hs1
 have HR1:Hid (∃ todo,RangeAt kS enV w1 b w.heap.size (l.filter fun p=>!decide (p.2.window<cut)||decide (∃ z∈todo,z.1=p.1)) todo∧todo.Sublist l):=Jh ⟨l,by
  rw [List.filter_eq_self.2 fun p hp=>by rw [dct (⟨p,hp,rfl⟩:∃ z∈l,z.1=p.1),Bool.or_true]]
  exact hr1,List.Sublist.refl l⟩
 have HG1:Hid (w.grownBy w1 (some b)):=Jh (hg1.but _)
 clear hr1 hg1 hs1
 have hri:w.heap.size<w1.heap.size:=HR1.out.elim fun _ h=>h.1.lt
 have hbr:b≠w.heap.size:=by omega
 generalize hr:w.heap.size=r at *
 have HRW:=Jh hr
 clear hr
 go_wp2
 go_loopw [8] (fun _ wr=>∃ todo,Hid (RangeAt kS enV wr b r (l.filter fun p=>!decide (p.2.window<cut)||decide (∃ z∈todo,z.1=p.1)) todo)∧Hid (w.grownBy wr (some b))∧r<wr.heap.size) (fun _ wr=>wr.rangeLeft b r)
 case atStart =>
  obtain ⟨todo,h1,h2⟩:=HR1.out
  exact ⟨todo,Jh h1,HG1,hri⟩
 case round =>
  clear HR1 HG1 hri
  obtain ⟨todo,HR,HG,hri⟩:=hrel
  obtain ⟨wo,rfl⟩:∃ wo:World,wo=wr:=⟨_,rfl⟩
  have HLe:=Jh HR.out.left_eq
  go_wp2_with (at_next;go_must (refine wpList_next wo rfl _ rfl HR.out rfl ?_ ?_))
  ·rintro rfl
   have HF:Hid (MapAt kS enV wo b (l.filter fun p=>!decide (p.2.window<cut))):=Jh (by
    have:=HR.out.map
    simpa using this)
   go_wp2
   go_end0
   exact ⟨rfl,HF.out,HG.out⟩
  ·intro x y w2 hm hr2 hlt hg2 hs2 hen
   have hml:(x,y)∈l:=(List.mem_filter.1 (HR.out.sub.subset hm)).1
   have HOK:Hid (kS.ok x):=Jh (HM.out.ok _ hml)
   have HG2:Hid (w.grownBy w2 (some b)):=Jh (HG.out.andThen hg2 (fun j hj=>by cases hj;exact Or.inl (by rw [HRW.out];exact Nat.le_refl _)))
   have hc2:w2.cell? ⟨gm,1,none⟩=some (.int .i64 cut):=by
    rw [World.cell?_of_block (HG2.out.block gm (by rw [HRW.out];exact HGM.out) (fun e=>hne (by injection e)))]
    exact HC.out
   have HR2:=Jh hr2
   have HLt:=Jh hlt
   have hri2:r<w2.heap.size:=by omega
   have hgm2:=World.block_lt_of_cell? w2 _ hc2
   have hc3:(w2.alloc (.cells #[.string y.key,.int .i64 y.window,.string y.part,.int .i64 y.first,.int .i64 y.last,.int .i64 y.rows,.int .i64 y.size,.int .u32 y.sum,.int .i64 y.born] 85)).cell? ⟨gm,1,none⟩=some (.int .i64 cut):=(World.cell?_alloc_lt w2 _ _ hgm2).trans hc2
   have HCl:=Jh (old_calls x y (w2.alloc (.cells #[.string y.key,.int .i64 y.window,.string y.part,.int .i64 y.first,.int .i64 y.last,.int .i64 y.rows,.int .i64 y.size,.int .u32 y.sum,.int .i64 y.born] 85)) hc3)
   have hev:enV y=.agg #[.string y.key,.int .i64 y.window,.string y.part,.int .i64 y.first,.int .i64 y.last,.int .i64 y.rows,.int .i64 y.size,.int .u32 y.sum,.int .i64 y.born]:=rfl
   rw [show kS.val x=.string x from rfl,hev] at hen
   rw [show kS.val x=.string x from rfl,hev]
   have HKp:Hid (decide (y.window<cut)=false→(l.filter fun p=>!decide (p.2.window<cut)||decide (∃ z∈todo,z.1=p.1))=l.filter fun p=>!decide (p.2.window<cut)||decide (∃ z∈mdel todo x,z.1=p.1)):=Jh fun h=>cut_keep (q:=fun p=>!decide (p.2.window<cut)) HN.out hml (by show (!decide (y.window<cut))=true;rw [h];rfl)
   have HDp:Hid (decide (y.window<cut)=true→mdel (l.filter fun p=>!decide (p.2.window<cut)||decide (∃ z∈todo,z.1=p.1)) x=l.filter fun p=>!decide (p.2.window<cut)||decide (∃ z∈mdel todo x,z.1=p.1)):=Jh fun h=>cut_drop (q:=fun p=>!decide (p.2.window<cut)) HN.out hml (by show (!decide (y.window<cut))=false;rw [h];rfl)
   have hga:w2.grownBy (w2.alloc (.cells #[.string y.key,.int .i64 y.window,.string y.part,.int .i64 y.first,.int .i64 y.last,.int .i64 y.rows,.int .i64 y.size,.int .u32 y.sum,.int .i64 y.born] 85)) none:=below_grown ((Below.refl w2.heap.size w2).alloc (Nat.le_refl _) _) _
   have HGA:=Jh hga
   clear hm hr2 hlt hg2 hs2 hml hc2 hc3 hgm2 hga hev
   go_wp2_with fail
   refine HCl.out.mono ?_
   rintro e w4 ⟨rfl,hg4⟩
   have hg24:w2.grownBy w4 none:=World.grownBy.trans HGA.out hg4
   have HR4:=Jh (HR2.out.kept hg24 (by simp) (by simp))
   have HG4:Hid (w.grownBy w4 (some b)):=Jh (HG2.out.andThen hg24 (fun j hj=>by cases hj))
   have hri4:r<w4.heap.size:=Nat.lt_of_lt_of_le hri2 hg24.size
   clear hg24 hg4 HG2 HR2 HCl HGA
   cases hd:decide (y.window<cut)
   ·have HR5:=HR4
    rw [HKp.out hd] at HR5
    go_wp2
    go_roundw
    case rel=>exact ⟨_,HR5,HG4,hri4⟩
    case measure=>rw [HR5.out.left_eq,HLe.out];exact HLt.out
   ·obtain ⟨w5,hrun,hr5,hg5,hs5⟩:=RangeAt.drop_run HR4.out HU.out HOK.out mdel_ne 0
    rw [HDp.out hd] at hr5
    have HR5:=Jh hr5
    have HG5:Hid (w.grownBy w5 (some b)):=Jh (HG4.out.andThen hg5 (fun j hj=>by cases hj;exact Or.inr rfl))
    have hri5:r<w5.heap.size:=by omega
    have hrun2:(Builtin.delete_ #[158,9] 0 #[.map (some b),.string x]).run Tryz.prog w4=.ok (.tuple #[]) w5:=hrun
    clear hrun hr5 hg5 hs5
    go_wp2
    go_roundw
    case rel=>exact ⟨_,HR5,HG5,hri5⟩
    case measure=>rw [HR5.out.left_eq,HLe.out];exact HLt.out
def MpIs (M:List (ByteArray × En)) (S:En→Prop):Prop:=∀ k x,(k,x)∈M↔x.key=k∧S x
theorem MpIs.nil:MpIs [] fun _=>False:=fun k x=>by simp
theorem MpIs.imp {M:List (ByteArray × En)} {S S':En→Prop} (h:MpIs M S) (e:∀ x,S x↔S' x):MpIs M S':=fun k x=>by rw [h k x,e x]
theorem MpIs.put {M:List (ByteArray × En)} {S:En→Prop} (h:MpIs M S) (x:En) (hn:∀ y,S y→y.key≠x.key):MpIs (mput kS.lt M x.key x) fun y=>S y∨y=x:=fun k y=>by
 rw [mput_mem,h k y]
 constructor
 ·rintro (e|⟨⟨e,hy⟩,_⟩)
  ·injection e with e1 e2
   subst e1 e2
   exact ⟨rfl,.inr rfl⟩
  ·exact ⟨e,.inl hy⟩
 ·rintro ⟨e,hy|rfl⟩
  ·exact .inr ⟨⟨e,hy⟩,fun e'=>hn y hy (e.trans e')⟩
  ·exact .inl (by rw [e])
theorem MpIs.del {M:List (ByteArray × En)} {S:En→Prop} (h:MpIs M S) (k:ByteArray):MpIs (mdel M k) fun y=>S y∧y.key≠k:=fun k' y=>by
 unfold mdel
 rw [List.mem_filter,h k' y]
 simp only [decide_eq_true_eq]
 constructor
 ·rintro ⟨⟨e,hy⟩,hk⟩
  exact ⟨e,hy,by rw [e];exact hk⟩
 ·rintro ⟨e,hy,hk⟩
  exact ⟨⟨e,hy⟩,by rw [← e];exact hk⟩
theorem MpIs.some_ {M:List (ByteArray × En)} {S:En→Prop} (h:MpIs M S) {k:ByteArray} {y:En} (hy:mget M k=some y):y.key=k∧S y:=(h k y).1 (mget_mem hy)
theorem MpIs.none_ {M:List (ByteArray × En)} {S:En→Prop} (h:MpIs M S) {k:ByteArray} (hn:mget M k=none):∀ y,S y→y.key≠k:=fun y hy e=>mget_none.1 hn (k,y) ((h k y).2 ⟨e,hy⟩) rfl
theorem MpIs.cut {M:List (ByteArray × En)} {S:En→Prop} (h:MpIs M S) (c:Int):MpIs (M.filter fun p=>!decide (p.2.window<c)) fun y=>S y∧c≤y.window:=fun k y=>by
 rw [List.mem_filter,h k y]
 simp only [Bool.not_eq_true',decide_eq_false_iff_not,Int.not_lt]
 rw [and_assoc]
theorem MpIs.srt {M:List (ByteArray × En)} {S:En→Prop} (h:MpIs M S) (hs:M.Pairwise fun p q=>ltS p.1 q.1=true):(M.map (·.2)).Pairwise fun a b=>ltE a b=true:=by
 rw [List.pairwise_map]
 refine hs.imp_of_mem fun {p q} hp hq hpq=>?_
 show ltS p.2.key q.2.key=true
 rw [((h p.1 p.2).1 hp).1,((h q.1 q.2).1 hq).1]
 exact hpq
theorem MpIs.list {M:List (ByteArray × En)} {S:En→Prop} (h:MpIs M S) (hs:M.Pairwise fun p q=>ltS p.1 q.1=true) {L:List En} (hL:L.Pairwise fun a b=>ltE a b=true) (hm:∀ x,S x↔x∈L):M.map (·.2)=L:=by
 refine srt_eq ltE_irr ltE_trans (h.srt hs) hL fun x=>?_
 rw [← hm,List.mem_map]
 constructor
 ·rintro ⟨p,hp,rfl⟩
  exact ((h p.1 p.2).1 hp).2
 ·intro hx
  exact ⟨(x.key,x),(h _ _).2 ⟨rfl,hx⟩,rfl⟩
theorem mdel_le {M:List (ByteArray × En)} (k:ByteArray):(mdel M k).length≤M.length:=List.length_filter_le _ _
theorem mput_le {M:List (ByteArray × En)} (k:ByteArray) (x:En):(mput kS.lt M k x).length≤M.length+1:=by
 rw [mput_lenp]
 have:=mdel_le (M:=M) k
 omega
theorem ents_srt {m:Md} {d:Ed} (hm:m.E.Pairwise fun a b=>ltE a b=true) (hd:(keys d.add).Nodup) (hx:∀ x∈d.add,∀ y∈m.E,y.key∉d.drop→y.key≠x.key) (hz:∀ x∈m.E,x.key.size≤maxLen) (hz2:∀ x∈d.add,x.key.size≤maxLen):(ents m d).Pairwise fun a b=>ltE a b=true:=by
 unfold ents
 refine entF_srt List.Pairwise.nil ?_ (fun x _ y hy=>by cases hy) (fun x hx'=>?_) (fun x hx'=>by cases hx')
 ·rw [List.pairwise_append]
  refine ⟨?_,?_,fun a ha b hb=>?_⟩
  ·have:=hd
   unfold keys at this
   rw [List.nodup_iff_pairwise_ne,List.pairwise_map] at this
   exact this
  ·unfold kept
   refine (hm.filter _).imp fun {a b} h e=>?_
   unfold ltE at h
   rw [e,ltS_irr] at h
   cases h
  ·unfold kept at hb
   obtain ⟨hb1,hb2⟩:=List.mem_filter.1 hb
   refine fun e=>hx a ha b hb1 (fun hk=>?_) e.symm
   rw [has_mem.2 hk] at hb2
   cases hb2
 ·rcases List.mem_append.1 hx' with h|h
  ·exact hz2 x h
  ·exact hz x (List.mem_filter.1 h).1
theorem ents_mem {m:Md} {d:Ed} {x:En}:x∈ents m d↔(x∈d.add∨(x∈m.E∧x.key∉d.drop))∧cutOf m d≤x.window:=by
 unfold ents kept
 rw [entF_mem,List.mem_append,List.mem_filter]
 have:(!hasB d.drop x.key)=true↔x.key∉d.drop:=by
  rw [Bool.not_eq_true',← Bool.not_eq_true,has_mem]
 rw [this]
 simp
end Go.Proofs.YtibnehaibgbliaaGreat.Mf
