/- Laws for the row's walk. -/
import Derived.Test.YtibnehaibgbliaaGreatR02
import Derived.Laws.IdiomCopy
import Derived.Lib.AppendZerosOnto
import Derived.Lib.Overlaps
import Derived.Shelf.RegionOpenPlain
set_option linter.unusedVariables false
set_option linter.unusedSimpArgs false
open Go.Lib renaming hid → Jh
namespace Go.Proofs.YtibnehaibgbliaaGreat.Mf
open Go.RowKit Go.Proofs.YtibnehaibgbliaaGreat
theorem run_copyN {P:Program} (w:World) (dT sT ty elem:TypeId) (k b o dLen dCap:Nat) (a:Addr) (sLen sCap:Nat) (cs:List Value)
  (hu:P.underlying dT=some (.slice elem)) (hs:(P.info? elem).map (·.size)=some k) (hn:cs.length=Nat.min sLen dLen*k)
  (hsrc:∀ j v,cs[j]?=some v→w.cell? (a.add j)=some v) (hc:∀ j,j<cs.length→(w.cell? ⟨b,o+j,none⟩).isSome=true) (hf:∀ j,j<cs.length→w.frozen? ⟨b,o+j,none⟩=false) (h1:∀ v∈cs,v.oneCell'=true) :
  (Builtin.copy_ #[dT,sT] ty #[.slice (some ⟨b,o,none⟩) dLen dCap,.slice (some a) sLen sCap]).run P w=.ok (goInt (Nat.min sLen dLen)) (w.setCells b o cs):=by
 have hl:=run_loadCells_list (P:=P) w a cs hsrc
 have hst:=run_storeCells_cells (P:=P) b o cs 0 w (by simpa using hc) (by simpa using hf) h1
 cases hq:P.info? elem with
 | none=>simp [hq] at hs
 | some i =>
  have hi:i.size=k:=by simpa [hq] using hs
  simp [Builtin.copy_,run_underlying hu,Builtin.lenOf,Builtin.firstCells,sizeOf,typeInfo,hq,hi,← hn,hl,hst]
theorem step_copyN {P:Program} {ops:Array Oper} {o:Oper} {a:Act} {w:World} {K:Act→World→Prop} {Q:Exit→Act→World→Prop} {E:Prop}
  (hg:o.guard=none) (d x:Operand) (dT sT:TypeId) (hop:o.op=Op.call { callee:=Callee.builtin Builtin.copy,args:=#[d,x],argTypes:=#[dT,sT] })
  (v u:Value) (hd:a.eval d=v) (hx:a.eval x=u) {v':Value} {w':World} (hr:(Builtin.copy_ #[dT,sT] o.type #[v,u]).run P w=.ok v' w') (hK:K (a.put o.dst v') w') :
  if Region.wanted o (yielded ops a.tmps)=true then Oper.wp P o a w K Q else E:=by
 have hw:Region.wanted o (yielded ops a.tmps)=true:=by simp [Region.wanted,hg]
 rw [if_pos hw]
 unfold Oper.wp
 simp [execOp,hop,resolve,invoke,builtin,hd,hx,hr,Result.andThen]
 exact hK
def putAt (cs:Array Value):Nat→List Value→Array Value
 | _,[]=>cs
 | o,v::r=>putAt (cs.setIfInBounds o v) (o+1) r
theorem putAt_size:∀ (vs:List Value) (o:Nat) (cs:Array Value),(putAt cs o vs).size=cs.size
 | [],_,_=>rfl
 | v::r,o,cs=>by
  show (putAt (cs.setIfInBounds o v) (o+1) r).size=_
  rw [putAt_size r,Array.size_setIfInBounds]
theorem putAt_out:∀ (vs:List Value) (o:Nat) (cs:Array Value) (j:Nat),j<o∨o+vs.length≤j→(putAt cs o vs)[j]?=cs[j]?
 | [],_,_,_,_=>rfl
 | v::r,o,cs,j,h=>by
  show (putAt (cs.setIfInBounds o v) (o+1) r)[j]?=_
  rw [List.length_cons] at h
  rw [putAt_out r (o+1) _ j (by omega),Array.getElem?_setIfInBounds_ne (by omega)]
theorem putAt_in:∀ (vs:List Value) (o:Nat) (cs:Array Value) (j:Nat),o+vs.length≤cs.size→j<vs.length→(putAt cs o vs)[o+j]?=vs[j]?
 | [],_,_,j,_,h=>absurd h (by simp)
 | v::r,o,cs,j,h,hj=>by
  show (putAt (cs.setIfInBounds o v) (o+1) r)[o+j]?=_
  rw [List.length_cons] at h hj
  cases j with
  | zero =>
   rw [putAt_out r (o+1) _ (o+0) (by omega),Nat.add_zero,Array.getElem?_setIfInBounds_self_of_lt (by omega)]
   rfl
  | succ j =>
   have:=putAt_in r (o+1) (cs.setIfInBounds o v) j (by rw [Array.size_setIfInBounds];omega) (by omega)
   rw [show o+(j+1)=o+1+j by omega,this]
   rfl
theorem Blk.setCells_ {g:Nat} {t:TypeId}:∀ (vs:List Value) (o:Nat) {w:World} {cs:Array Value},Blk w g t cs→Blk (w.setCells g o vs) g t (putAt cs o vs)
 | [],_,_,_,h=>h
 | v::r,o,_,_,h=>Blk.setCells_ r (o+1) (h.set_ o v)
theorem Only.setCells_ {g:Nat} {w0:World}:∀ (vs:List Value) (o:Nat) {w:World},Only g w0 w→Only g w0 (w.setCells g o vs)
 | [],_,_,h=>h
 | v::r,o,_,h=>Only.setCells_ r (o+1) (h.setCell (.inl rfl) v)
theorem put_list {F:Array Value} {xs xv:List Value} {a:Nat} (ha:a≤xs.length) (hF:xs.length+xv.length≤F.size)
  (h1:∀ j,j<a→F[j]?=xs[j]?) (h2:∀ j,j<xv.length→F[a+j]?=xv[j]?) (h3:∀ j,a+j<xs.length→F[a+xv.length+j]?=xs[a+j]?) :
  F.toList.take (xs.length+xv.length)=xs.take a++xv++xs.drop a:=by
 apply List.ext_getElem?
 intro j
 have hta:(xs.take a).length=a:=by rw [List.length_take];omega
 by_cases hj:j<xs.length+xv.length
 ·rw [List.getElem?_take,if_pos hj,Array.getElem?_toList]
  rcases Nat.lt_or_ge j a with c1|c1
  ·rw [h1 j c1,List.append_assoc,List.getElem?_append_left (by omega),List.getElem?_take,if_pos c1]
  ·rcases Nat.lt_or_ge j (a+xv.length) with c2|c2
   ·have:=h2 (j-a) (by omega)
    rw [show a+(j-a)=j by omega] at this
    rw [this,List.getElem?_append_left (by rw [List.length_append];omega),List.getElem?_append_right (by omega),hta]
   ·have:=h3 (j-a-xv.length) (by omega)
    rw [show a+xv.length+(j-a-xv.length)=j by omega] at this
    rw [this,List.getElem?_append_right (by rw [List.length_append];omega),List.getElem?_drop,List.length_append,hta]
    congr 1
    omega
 ·rw [List.getElem?_eq_none (by rw [List.length_take];omega),List.getElem?_eq_none (by rw [List.length_append,List.length_append,List.length_drop];omega)]
theorem zc_size (z:Array Value) (n:Nat):(Builtin.zeroCells z n).size=n*z.size:=by simp [Builtin.zeroCells]
theorem own_blk {w:World} {base n size:Nat} {e:TypeId} {A:Option Addr} {c:Nat} {xs:List Value} (h:w.ownsRow base e size (.slice A n c) n xs) (hp:0<n) :
  ∃ g cur,A=some ⟨g,0,none⟩∧base≤g∧Blk w g e cur∧n≤c∧c≤maxLen∧cur.size=c*size∧cur.toList.take (n*size)=xs:=by
 rcases h.2 with ⟨_,h0⟩|⟨g,cap,cur,hv,hb,hg,h1,h2,h3,h4⟩
 ·omega
 ·injection hv with hv _ hc
  subst hc
  exact ⟨g,cur,hv,hb,hg,h1,h2,h3,h4⟩
theorem own_form {w:World} {base n size:Nat} {e:TypeId} {A:Option Addr} {c:Nat} {xs:List Value} (h:w.ownsRow base e size (.slice A n c) n xs):(A=none∧n=0∧c=0)∨∃ g,A=some ⟨g,0,none⟩∧n≤c:=by
 rcases h.2 with ⟨hv,h0⟩|⟨g,cap,cur,hv,hb,hg,h1,h2,h3,h4⟩
 ·injection hv with hv _ hc
  exact .inl ⟨hv,h0,hc⟩
 ·injection hv with hv _ hc
  subst hc
  exact .inr ⟨g,hv,h1⟩
theorem own_of_blk {w:World} {base n size g c:Nat} {e:TypeId} {cur:Array Value} {xs:List Value} (hb:base≤g) (hg:Blk w g e cur) (h1:n≤c) (h2:c≤maxLen) (h3:cur.size=c*size) (h4:cur.toList.take (n*size)=xs) (hl:xs.length=n*size) :
  w.ownsRow base e size (.slice (some ⟨g,0,none⟩) n c) n xs:=⟨hl,.inr ⟨g,c,cur,rfl,hb,hg,h1,h2,h3,h4⟩⟩
theorem Tryz.infoMk:(Tryz.prog.info? 90).map (fun i=>(i.zero,i.size,i.bytes))=some (some (.agg #[.int .i64 0,.int .i64 0]),2,16):=by kernel_rfl
theorem Tryz.infoOw:(Tryz.prog.info? 26).map (fun i=>(i.zero,i.size,i.bytes))=some (some (.agg #[.int .i64 0,.int .i64 0,.int .i64 0]),3,24):=by kernel_rfl
def RetIns (w:World) (base n size:Nat) (e:TypeId) (A:Option Addr) (c:Nat) (ys:List Value) (en:Ending) (w':World):Prop :=
 ∃ A' c',en=.returned (.slice A' (n+1) c')∧w'.ownsRow base e size (.slice A' (n+1) c') (n+1) ys∧w.grownBy w' (Value.slice A n c).ownBlock∧((Value.slice A' (n+1) c').ownBlock=(Value.slice A n c).ownBlock∨(Value.slice A' (n+1) c').ownBlock=some w.heap.size)
set_option maxRecDepth 100000 in
set_option maxHeartbeats 4000000 in
theorem insEndM (w:World) {base n c vb:Nat} {A:Option Addr} {xs xv:List Value} (ho:w.ownsRow base 90 2 (.slice A n c) n xs) (hv:Blk w vb 90 xv.toArray) (hvl:xv.length=2) (h2:∀ v∈xv,v.oneCell'=true) (hn:n≤1000000) (hB:base≤w.heap.size) :
  Calls Tryz.prog 130 #[.slice A n c,.int .i64 (n:Int),.slice (some ⟨vb,0,none⟩) 1 1] w (RetIns w base n 2 90 A c (xs++xv)):=by
 have HO:=Jh ho
 have HR:Hid (Reads w w.heap.size 2 (some ⟨vb,0,none⟩) 1 xv):=Jh ⟨hvl,fun _=>⟨vb,0,rfl,hv.lt,fun j u hj=>by rw [Nat.zero_add,hv.cell];simpa using hj⟩⟩
 have hf:=own_form ho
 clear ho hv
 rcases hf with ⟨rfl,rfl,rfl⟩|⟨g,rfl,hnc⟩
 ·skip
  go_enter Tryz.func130,Tryz.ntmps130
  go_wp2_with (at_builtin;go_must (refine wpList_append_sl _ rfl (.tmp 23) (.tmp 24) _ rfl base 90 _ 2 16 Tryz.underlying24 Tryz.infoMk rfl (by omega) _ _ _ rfl HO.out w.heap.size _ 1 1 _ rfl HR.out h2 (by unfold maxLen;omega) (by omega) hB ?_))
  intro A' c' w1 hc1 hc2 hrd hbel hown hgr hob
  go_wp2
  go_ret
  exact ⟨A',c',rfl,hown,hgr,hob⟩
 ·by_cases hcn:c=n
  ·subst hcn
   go_enter Tryz.func130,Tryz.ntmps130
   go_wp2_with (at_builtin;go_must (refine wpList_append_sl _ rfl (.tmp 23) (.tmp 24) _ rfl base 90 _ 2 16 Tryz.underlying24 Tryz.infoMk rfl (by omega) _ _ _ rfl HO.out w.heap.size _ 1 1 _ rfl HR.out h2 (by unfold maxLen;omega) (by omega) hB ?_))
   intro A' c' w1 hc1 hc2 hrd hbel hown hgr hob
   go_wp2
   go_ret
   exact ⟨A',c',rfl,hown,hgr,hob⟩
  ·skip
   go_enter Tryz.func130,Tryz.ntmps130
   go_wp2_with (at_builtin;go_must (refine wpList_append_sl _ rfl (.tmp 23) (.tmp 24) _ rfl base 90 _ 2 16 Tryz.underlying24 Tryz.infoMk rfl (by omega) _ _ _ rfl HO.out w.heap.size _ 1 1 _ rfl HR.out h2 (by unfold maxLen;omega) (by omega) hB ?_))
   intro A' c' w1 hc1 hc2 hrd hbel hown hgr hob
   go_wp2
   go_ret
   exact ⟨A',c',rfl,hown,hgr,hob⟩
set_option maxRecDepth 100000 in
set_option maxHeartbeats 4000000 in
theorem insGrowM (w:World) {base n c vb i:Nat} {A:Option Addr} {xs xv:List Value} (ho:w.ownsRow base 90 2 (.slice A n c) n xs) (hv:Blk w vb 90 xv.toArray) (hvl:xv.length=2) (h1:∀ v∈xs,v.oneCell'=true) (h2:∀ v∈xv,v.oneCell'=true) (hn:n≤1000000) (hB:base≤w.heap.size) (hi:i<n) (hc:c<n+1) :
  Calls Tryz.prog 130 #[.slice A n c,.int .i64 (i:Int),.slice (some ⟨vb,0,none⟩) 1 1] w (RetIns w base n 2 90 A c (xs.take (i*2)++xv++xs.drop (i*2))):=by
 obtain ⟨g,cur,rfl,hbg,hg,hnc,hcm,hcs,hct⟩:=own_blk ho (by omega)
 have hxl:=ho.1
 have hcell:∀ j v,xs[j]?=some v→w.cell? ⟨g,j,none⟩=some v:=fun j v hj=>by
  rw [hg.cell]
  have hjl:=(List.getElem?_eq_some_iff.1 hj).1
  rw [← hct,List.getElem?_take,if_pos (by omega),Array.getElem?_toList] at hj
  exact hj
 obtain ⟨i0,hi0,hz0,hzs,hzb⟩:=info_parts Tryz.infoMk
 have hsz:(Tryz.prog.info? 90).map (·.size)=some 2:=by rw [hi0];simp [hzs]
 have hik:i+(n+1-i)=n+1:=by omega
 have hold:(Builtin.firstCells i0.size i (.slice (some ⟨g,0,none⟩) i c)).run Tryz.prog w.drew=.ok (xs.take (i*2)).toArray w.drew:=by
  rw [hzs]
  exact run_firstCells_some w.drew 2 i ⟨g,0,none⟩ i c (xs.take (i*2)) (by rw [List.length_take];omega) (fun j v hj=>by
   rw [Addr.add_lit,Nat.zero_add]
   rw [List.getElem?_take] at hj
   split at hj
   ·exact hcell j v hj
   ·cases hj)
 have hrz:∀ ty,(Builtin.append_ #[24,3] ty #[.slice (some ⟨g,0,none⟩) i c,.int .i64 ((n:Int)+1-(i:Int))]).run Tryz.prog w =
   .ok (.slice (some ⟨w.heap.size,0,none⟩) (n+1) (grownCap w (n+1) c 90)) (w.drew.alloc (.cells ((xs.take (i*2)).toArray++Builtin.zeroCells (Value.agg #[.int .i64 0,.int .i64 0]).cells (n+1-i)++Builtin.zeroCells (Value.agg #[.int .i64 0,.int .i64 0]).cells (grownCap w (n+1) c 90-(n+1))) 90)):=fun ty=>by
  have h:=Lib.run_append_grow_zeros w 24 3 ty 90 i0 _ .i64 .i64 Tryz.underlying24 Tryz.underlying3 hi0 hz0 (some ⟨g,0,none⟩) i c (xs.take (i*2)) hold (n+1-i) (by omega) (by omega) (by omega) (by omega) (by rw [hzb];omega) (by rw [hzb,hik];exact growslice_fits hc (by omega))
  rw [hik] at h
  rw [show (n:Int)+1-(i:Int)=((n+1-i:Nat):Int) by omega]
  exact h
 obtain ⟨G,hG⟩:∃ G,G=grownCap w (n+1) c 90:=⟨_,rfl⟩
 obtain ⟨ROW,hROW⟩:∃ ROW:Array Value,ROW=(xs.take (i*2)).toArray++Builtin.zeroCells (Value.agg #[.int .i64 0,.int .i64 0]).cells (n+1-i)++Builtin.zeroCells (Value.agg #[.int .i64 0,.int .i64 0]).cells (G-(n+1)):=⟨_,rfl⟩
 rw [← hG] at hrz
 rw [← hROW] at hrz
 have hGn:n+1≤G:=by rw [hG];exact grownCap_ge w _ _ _
 have hGm:G≤maxLen:=by rw [hG];exact grownCap_le_maxLen w (n+1) c _ (by unfold maxLen;omega)
 have hG63:G≤9223372036854775807:=by unfold maxLen at hGm;omega
 have hRl:ROW.size=G*2:=by
  rw [hROW]
  simp only [Array.size_append,List.size_toArray,List.length_take,zc_size]
  rw [show (Value.agg #[.int .i64 0,.int .i64 0]).cells.size=2 from rfl,hxl]
  omega
 have hRt:∀ j,j<i*2→ROW[j]?=xs[j]?:=fun j hj=>by
  rw [hROW,Array.append_assoc,Array.getElem?_append_left (by simp;omega)]
  simp [List.getElem?_take,hj]
 have hGi:¬ (G=i):=by omega
 have hGim:¬ (G=i+1):=by omega
 have hci:¬ (c=i):=by omega
 have hz2:¬ ((i:Int)=(n:Int)):=by omega
 have hz3:(c:Int)<(n:Int)+1:=by omega
 have hw1:IntKind.i64.wrap ((i:Int)+1)=(i:Int)+1:=IntWalk.i64_in _ (by omega)
 have hw2:IntKind.i64.wrap ((n:Int)+1)=(n:Int)+1:=IntWalk.i64_in _ (by omega)
 have hw3:IntKind.i64.wrap ((n:Int)+1-(i:Int))=(n:Int)+1-(i:Int):=IntWalk.i64_in _ (by omega)
 have hb1:(0:Int)≤(i:Int)+1:=by omega
 have hin:i≤n:=by omega
 have htn:((i:Int)+1).toNat=i+1:=by omega
 have hb3:(i:Int)≤(n:Int):=by omega
 have hB1:Blk (w.alloc (.cells ROW 90)).drew w.heap.size 90 ROW:=(Blk.new w 90 ROW).drew
 have hcpA:∀ ty,(Builtin.copy_ #[24,24] ty #[.slice (some ⟨w.heap.size,i*2,none⟩) (n+1-i) (G-i),.slice (some ⟨vb,0,none⟩) 1 1]).run Tryz.prog (w.alloc (.cells ROW 90)).drew=.ok (goInt ((1:Nat):Int)) ((w.alloc (.cells ROW 90)).drew.setCells w.heap.size (i*2) xv):=fun ty=>by
  have:=run_copyN (P:=Tryz.prog) (w.alloc (.cells ROW 90)).drew 24 24 ty 90 2 w.heap.size (i*2) (n+1-i) (G-i) ⟨vb,0,none⟩ 1 1 xv Tryz.underlying24 hsz (by rw [hvl,show Nat.min 1 (n+1-i)=1 from Nat.min_eq_left (by omega)])
   (fun j v hj=>by rw [Addr.add_lit,Nat.zero_add,((hv.alloc (.cells ROW 90)).drew).cell];simpa using hj)
   (fun j hj=>by rw [hB1.cell,Array.getElem?_eq_getElem (by omega)];rfl) (fun j hj=>hB1.frozen _) h2
  rw [this,show Nat.min 1 (n+1-i)=1 from Nat.min_eq_left (by omega)]
 have hB2:Blk ((w.alloc (.cells ROW 90)).drew.setCells w.heap.size (i*2) xv).drew w.heap.size 90 (putAt ROW (i*2) xv):=(Blk.setCells_ xv (i*2) hB1).drew
 have hO2:Only w.heap.size w ((w.alloc (.cells ROW 90)).drew.setCells w.heap.size (i*2) xv).drew:=(Only.setCells_ xv (i*2) (((Only.refl _ w).alloc _).drew)).drew
 have hgw:g<w.heap.size:=hg.lt
 have hdl:(xs.drop (i*2)).length=(n-i)*2:=by rw [List.length_drop,hxl];omega
 have hcpB:∀ ty,(Builtin.copy_ #[24,24] ty #[.slice (some ⟨w.heap.size,(i+1)*2,none⟩) (n+1-(i+1)) (G-(i+1)),.slice (some ⟨g,i*2,none⟩) (n-i) (c-i)]).run Tryz.prog ((w.alloc (.cells ROW 90)).drew.setCells w.heap.size (i*2) xv).drew=.ok (goInt ((n-i:Nat):Int)) (((w.alloc (.cells ROW 90)).drew.setCells w.heap.size (i*2) xv).drew.setCells w.heap.size ((i+1)*2) (xs.drop (i*2))):=fun ty=>by
  have hmin:Nat.min (n-i) (n+1-(i+1))=n-i:=Nat.min_eq_left (by omega)
  have hg2:Blk ((w.alloc (.cells ROW 90)).drew.setCells w.heap.size (i*2) xv).drew g 90 cur:=hO2.blk hg (by omega)
  have:=run_copyN (P:=Tryz.prog) ((w.alloc (.cells ROW 90)).drew.setCells w.heap.size (i*2) xv).drew 24 24 ty 90 2 w.heap.size ((i+1)*2) (n+1-(i+1)) (G-(i+1)) ⟨g,i*2,none⟩ (n-i) (c-i) (xs.drop (i*2)) Tryz.underlying24 hsz (by rw [hdl,hmin])
   (fun j v hj=>by
    rw [Addr.add_lit,hg2.cell]
    rw [List.getElem?_drop] at hj
    have:=hcell _ v hj
    rw [hg.cell] at this
    exact this)
   (fun j hj=>by rw [hB2.cell,Array.getElem?_eq_getElem (by rw [putAt_size];omega)];rfl) (fun j hj=>hB2.frozen _) (fun v hv=>h1 v (List.mem_of_mem_drop hv))
  rw [this,hmin]
 have HF:Hid (RetIns w base n 2 90 (some ⟨g,0,none⟩) c (xs.take (i*2)++xv++xs.drop (i*2)) (.returned (.slice (some ⟨w.heap.size,0,none⟩) (n+1) G)) (((w.alloc (.cells ROW 90)).drew.setCells w.heap.size (i*2) xv).drew.setCells w.heap.size ((i+1)*2) (xs.drop (i*2)))):=Jh (by
  have hB3:=Blk.setCells_ (xs.drop (i*2)) ((i+1)*2) hB2
  have hO3:=Only.setCells_ (xs.drop (i*2)) ((i+1)*2) hO2
  refine ⟨_,_,rfl,own_of_blk hB hB3 hGn hGm (by rw [putAt_size,putAt_size];exact hRl) ?_ ?_,?_,.inr rfl⟩
  ·have:=put_list (F:=putAt (putAt ROW (i*2) xv) ((i+1)*2) (xs.drop (i*2))) (xs:=xs) (xv:=xv) (a:=i*2) (by omega) (by rw [putAt_size,putAt_size];omega)
    (fun j hj=>by rw [putAt_out _ _ _ j (by omega),putAt_out _ _ _ j (by omega)];exact hRt j hj)
    (fun j hj=>by rw [putAt_out _ _ _ _ (by omega),putAt_in _ _ _ j (by omega) hj])
    (fun j hj=>by rw [hvl,show i*2+2+j=(i+1)*2+j by omega,putAt_in _ _ _ j (by rw [putAt_size];omega) (by omega),List.getElem?_drop])
   rw [hxl,hvl,show n*2+2=(n+1)*2 by omega] at this
   exact this
  ·rw [List.length_append,List.length_append,List.length_take,hdl,hvl];omega
  ·exact ⟨hO3.os,hO3.tape,hO3.output,hO3.size,fun b hb _=>hO3.block b hb (fun e=>by injection e with e;omega)⟩)
 clear hik hold hROW hG hB1 hB2 hO2 hg hct hcell hRt hRl hbg
 go_enter Tryz.func130,Tryz.ntmps130
 go_wp2_with (first|(at_builtin;refine Lib.wpList_append_run _ rfl _ _ _ _ rfl _ _ rfl rfl _ _ (hrz _) ?_))
 go_region_law (refine step_copyN rfl _ _ _ _ rfl _ _ (by simp [Act.eval,Act.put]) (by simp [Act.eval,Act.put]) (hcpB _) ?_)
 go_wp2
 go_ret
 exact HF.out
set_option maxRecDepth 100000 in
set_option maxHeartbeats 4000000 in
theorem insShiftM (w:World) {base n c vb i:Nat} {A:Option Addr} {xs xv:List Value} (ho:w.ownsRow base 90 2 (.slice A n c) n xs) (hv:Blk w vb 90 xv.toArray) (hvA:(Value.slice A n c).ownBlock≠some vb) (hvl:xv.length=2) (h1:∀ v∈xs,v.oneCell'=true) (h2:∀ v∈xv,v.oneCell'=true) (hn:n≤1000000) (hi:i<n) (hc:n+1≤c) :
  Calls Tryz.prog 130 #[.slice A n c,.int .i64 (i:Int),.slice (some ⟨vb,0,none⟩) 1 1] w (RetIns w base n 2 90 A c (xs.take (i*2)++xv++xs.drop (i*2))):=by
 obtain ⟨g,cur,rfl,hbg,hg,hnc,hcm,hcs,hct⟩:=own_blk ho (by omega)
 have hgv:vb≠g:=fun e=>hvA (by rw [e];rfl)
 have hxl:=ho.1
 have hcell:∀ j,j<xs.length→cur[j]?=xs[j]?:=fun j hj=>by
  rw [← hct,List.getElem?_take,if_pos (by omega),Array.getElem?_toList]
 obtain ⟨i0,hi0,hz0,hzs,hzb⟩:=info_parts Tryz.infoMk
 have hsz:(Tryz.prog.info? 90).map (·.size)=some 2:=by rw [hi0];simp [hzs]
 have hdl:(xs.drop (i*2)).length=(n-i)*2:=by rw [List.length_drop,hxl];omega
 have hov:∀ lb cb,(callFunc 146 #[.slice (some ⟨vb,0,none⟩) 1 1,.slice (some ⟨g,(i+1)*2,none⟩) lb cb]).run Tryz.prog w=.ok (.value (.bool false)) w:=fun lb cb=>by
  rw [run_callFunc_extern Tryz.func146 (by kernel_rfl) (by kernel_rfl) (by kernel_rfl) (e:=Extern.SlicesOverlaps.overlaps #[24,24] #[4]) (by kernel_rfl),
   Lib.run_overlaps_apart w 24 4 90 Tryz.underlying24 2 (fun w=>by simp [Go.sizeOf,typeInfo,hi0,hzs]) ⟨vb,0,none⟩ ⟨g,(i+1)*2,none⟩ 1 1 lb cb hgv 90 90 2 cur.size (by unfold Blk at hv;simp [World.shape?,hv,hvl]) (by unfold Blk at hg;simp [World.shape?,hg]) (by omega) (hv.frozen _) (hv.frozen _)]
  rfl
 have hcpA:∀ ty,(Builtin.copy_ #[24,24] ty #[.slice (some ⟨g,(i+1)*2,none⟩) (n+1-(i+1)) (c-(i+1)),.slice (some ⟨g,i*2,none⟩) (n+1-i) (c-i)]).run Tryz.prog w.drew=.ok (goInt ((n-i:Nat):Int)) (w.drew.setCells g ((i+1)*2) (xs.drop (i*2))):=fun ty=>by
  have hmin:Nat.min (n+1-i) (n+1-(i+1))=n-i:=by rw [show n+1-(i+1)=n-i by omega];exact Nat.min_eq_right (by omega)
  have:=run_copyN (P:=Tryz.prog) w.drew 24 24 ty 90 2 g ((i+1)*2) (n+1-(i+1)) (c-(i+1)) ⟨g,i*2,none⟩ (n+1-i) (c-i) (xs.drop (i*2)) Tryz.underlying24 hsz (by rw [hdl,hmin])
   (fun j v hj=>by
    rw [Addr.add_lit,hg.drew.cell]
    rw [List.getElem?_drop] at hj
    rw [hcell _ (List.getElem?_eq_some_iff.1 hj).1]
    exact hj)
   (fun j hj=>by rw [hg.drew.cell,Array.getElem?_eq_getElem (by omega)];rfl) (fun j hj=>hg.drew.frozen _) (fun v hv=>h1 v (List.mem_of_mem_drop hv))
  rw [this,hmin]
 have hB2:Blk (w.drew.setCells g ((i+1)*2) (xs.drop (i*2))) g 90 (putAt cur ((i+1)*2) (xs.drop (i*2))):=Blk.setCells_ _ _ hg.drew
 have hO2:Only g w (w.drew.setCells g ((i+1)*2) (xs.drop (i*2))):=Only.setCells_ _ _ (Only.refl _ w).drew
 have hcpB:∀ ty,(Builtin.copy_ #[24,24] ty #[.slice (some ⟨g,i*2,none⟩) (n+1-i) (c-i),.slice (some ⟨vb,0,none⟩) 1 1]).run Tryz.prog (w.drew.setCells g ((i+1)*2) (xs.drop (i*2)))=.ok (goInt ((1:Nat):Int)) ((w.drew.setCells g ((i+1)*2) (xs.drop (i*2))).setCells g (i*2) xv):=fun ty=>by
  have:=run_copyN (P:=Tryz.prog) (w.drew.setCells g ((i+1)*2) (xs.drop (i*2))) 24 24 ty 90 2 g (i*2) (n+1-i) (c-i) ⟨vb,0,none⟩ 1 1 xv Tryz.underlying24 hsz (by rw [hvl,show Nat.min 1 (n+1-i)=1 from Nat.min_eq_left (by omega)])
   (fun j v hj=>by rw [Addr.add_lit,Nat.zero_add,(hO2.blk hv hgv).cell];simpa using hj)
   (fun j hj=>by rw [hB2.cell,Array.getElem?_eq_getElem (by rw [putAt_size];omega)];rfl) (fun j hj=>hB2.frozen _) h2
  rw [this,show Nat.min 1 (n+1-i)=1 from Nat.min_eq_left (by omega)]
 have HF:Hid (RetIns w base n 2 90 (some ⟨g,0,none⟩) c (xs.take (i*2)++xv++xs.drop (i*2)) (.returned (.slice (some ⟨g,0,none⟩) (n+1) c)) ((w.drew.setCells g ((i+1)*2) (xs.drop (i*2))).setCells g (i*2) xv)):=Jh (by
  have hB3:=Blk.setCells_ xv (i*2) hB2
  have hO3:=Only.setCells_ xv (i*2) hO2
  refine ⟨_,_,rfl,own_of_blk hbg hB3 hc hcm (by rw [putAt_size,putAt_size];exact hcs) ?_ ?_,hO3,.inl rfl⟩
  ·have:=put_list (F:=putAt (putAt cur ((i+1)*2) (xs.drop (i*2))) (i*2) xv) (xs:=xs) (xv:=xv) (a:=i*2) (by omega) (by rw [putAt_size,putAt_size];omega)
    (fun j hj=>by rw [putAt_out _ _ _ j (by omega),putAt_out _ _ _ j (by omega)];exact hcell j (by omega))
    (fun j hj=>by rw [putAt_in _ _ _ j (by rw [putAt_size];omega) hj])
    (fun j hj=>by rw [putAt_out _ _ _ _ (by omega),hvl,show i*2+2+j=(i+1)*2+j by omega,putAt_in _ _ _ j (by omega) (by omega),List.getElem?_drop])
   rw [hxl,hvl,show n*2+2=(n+1)*2 by omega] at this
   exact this
  ·rw [List.length_append,List.length_append,List.length_take,hdl,hvl];omega)
 have hc63:c≤9223372036854775807:=by unfold maxLen at hcm;omega
 have hci:¬ (c=i):=by omega
 have hci1:¬ (c=i+1):=by omega
 have hz2:¬ ((i:Int)=(n:Int)):=by omega
 have hz3:¬ ((c:Int)<(n:Int)+1):=by omega
 have hw1:IntKind.i64.wrap ((i:Int)+1)=(i:Int)+1:=IntWalk.i64_in _ (by omega)
 have hw2:IntKind.i64.wrap ((n:Int)+1)=(n:Int)+1:=IntWalk.i64_in _ (by omega)
 have hb1:(0:Int)≤(i:Int)+1:=by omega
 have hin:i≤n:=by omega
 have htn:((i:Int)+1).toNat=i+1:=by omega
 have htn2:((n:Int)+1).toNat=n+1:=by omega
 have hb3:(i:Int)≤(n:Int):=by omega
 have hb4:(i:Int)≤(n:Int)+1:=by omega
 have hb5:(n:Int)+1≤(c:Int):=by omega
 have hb6:(0:Int)≤(n:Int)+1:=by omega
 clear hB2 hO2 hg hct hcell hbg hvA hgv hcs hcm
 go_enter Tryz.func130,Tryz.ntmps130
 go_wp2_with (simp only [hov])
 go_region_law (refine step_copyN rfl _ _ _ _ rfl _ _ (by simp [Act.eval,Act.put]) (by simp [Act.eval,Act.put]) (hcpA _) ?_)
 go_wp2
 go_ret
 exact HF.out
set_option maxRecDepth 100000 in
set_option maxHeartbeats 4000000 in
theorem insEndO (w:World) {base n c vb:Nat} {A:Option Addr} {xs xv:List Value} (ho:w.ownsRow base 26 3 (.slice A n c) n xs) (hv:Blk w vb 26 xv.toArray) (hvl:xv.length=3) (h2:∀ v∈xv,v.oneCell'=true) (hn:n≤1000000) (hB:base≤w.heap.size) :
  Calls Tryz.prog 133 #[.slice A n c,.int .i64 (n:Int),.slice (some ⟨vb,0,none⟩) 1 1] w (RetIns w base n 3 26 A c (xs++xv)):=by
 have HO:=Jh ho
 have HR:Hid (Reads w w.heap.size 3 (some ⟨vb,0,none⟩) 1 xv):=Jh ⟨hvl,fun _=>⟨vb,0,rfl,hv.lt,fun j u hj=>by rw [Nat.zero_add,hv.cell];simpa using hj⟩⟩
 have hf:=own_form ho
 clear ho hv
 rcases hf with ⟨rfl,rfl,rfl⟩|⟨g,rfl,hnc⟩
 ·skip
  go_enter Tryz.func133,Tryz.ntmps133
  go_wp2_with (at_builtin;go_must (refine wpList_append_sl _ rfl (.tmp 23) (.tmp 24) _ rfl base 26 _ 3 24 Tryz.underlying51 Tryz.infoOw rfl (by omega) _ _ _ rfl HO.out w.heap.size _ 1 1 _ rfl HR.out h2 (by unfold maxLen;omega) (by omega) hB ?_))
  intro A' c' w1 hc1 hc2 hrd hbel hown hgr hob
  go_wp2
  go_ret
  exact ⟨A',c',rfl,hown,hgr,hob⟩
 ·by_cases hcn:c=n
  ·subst hcn
   go_enter Tryz.func133,Tryz.ntmps133
   go_wp2_with (at_builtin;go_must (refine wpList_append_sl _ rfl (.tmp 23) (.tmp 24) _ rfl base 26 _ 3 24 Tryz.underlying51 Tryz.infoOw rfl (by omega) _ _ _ rfl HO.out w.heap.size _ 1 1 _ rfl HR.out h2 (by unfold maxLen;omega) (by omega) hB ?_))
   intro A' c' w1 hc1 hc2 hrd hbel hown hgr hob
   go_wp2
   go_ret
   exact ⟨A',c',rfl,hown,hgr,hob⟩
  ·skip
   go_enter Tryz.func133,Tryz.ntmps133
   go_wp2_with (at_builtin;go_must (refine wpList_append_sl _ rfl (.tmp 23) (.tmp 24) _ rfl base 26 _ 3 24 Tryz.underlying51 Tryz.infoOw rfl (by omega) _ _ _ rfl HO.out w.heap.size _ 1 1 _ rfl HR.out h2 (by unfold maxLen;omega) (by omega) hB ?_))
   intro A' c' w1 hc1 hc2 hrd hbel hown hgr hob
   go_wp2
   go_ret
   exact ⟨A',c',rfl,hown,hgr,hob⟩
set_option maxRecDepth 100000 in
set_option maxHeartbeats 4000000 in
theorem insGrowO (w:World) {base n c vb i:Nat} {A:Option Addr} {xs xv:List Value} (ho:w.ownsRow base 26 3 (.slice A n c) n xs) (hv:Blk w vb 26 xv.toArray) (hvl:xv.length=3) (h1:∀ v∈xs,v.oneCell'=true) (h2:∀ v∈xv,v.oneCell'=true) (hn:n≤1000000) (hB:base≤w.heap.size) (hi:i<n) (hc:c<n+1) :
  Calls Tryz.prog 133 #[.slice A n c,.int .i64 (i:Int),.slice (some ⟨vb,0,none⟩) 1 1] w (RetIns w base n 3 26 A c (xs.take (i*3)++xv++xs.drop (i*3))):=by
 obtain ⟨g,cur,rfl,hbg,hg,hnc,hcm,hcs,hct⟩:=own_blk ho (by omega)
 have hxl:=ho.1
 have hcell:∀ j v,xs[j]?=some v→w.cell? ⟨g,j,none⟩=some v:=fun j v hj=>by
  rw [hg.cell]
  have hjl:=(List.getElem?_eq_some_iff.1 hj).1
  rw [← hct,List.getElem?_take,if_pos (by omega),Array.getElem?_toList] at hj
  exact hj
 obtain ⟨i0,hi0,hz0,hzs,hzb⟩:=info_parts Tryz.infoOw
 have hsz:(Tryz.prog.info? 26).map (·.size)=some 3:=by rw [hi0];simp [hzs]
 have hik:i+(n+1-i)=n+1:=by omega
 have hold:(Builtin.firstCells i0.size i (.slice (some ⟨g,0,none⟩) i c)).run Tryz.prog w.drew=.ok (xs.take (i*3)).toArray w.drew:=by
  rw [hzs]
  exact run_firstCells_some w.drew 3 i ⟨g,0,none⟩ i c (xs.take (i*3)) (by rw [List.length_take];omega) (fun j v hj=>by
   rw [Addr.add_lit,Nat.zero_add]
   rw [List.getElem?_take] at hj
   split at hj
   ·exact hcell j v hj
   ·cases hj)
 have hrz:∀ ty,(Builtin.append_ #[51,3] ty #[.slice (some ⟨g,0,none⟩) i c,.int .i64 ((n:Int)+1-(i:Int))]).run Tryz.prog w =
   .ok (.slice (some ⟨w.heap.size,0,none⟩) (n+1) (grownCap w (n+1) c 26)) (w.drew.alloc (.cells ((xs.take (i*3)).toArray++Builtin.zeroCells (Value.agg #[.int .i64 0,.int .i64 0,.int .i64 0]).cells (n+1-i)++Builtin.zeroCells (Value.agg #[.int .i64 0,.int .i64 0,.int .i64 0]).cells (grownCap w (n+1) c 26-(n+1))) 26)):=fun ty=>by
  have h:=Lib.run_append_grow_zeros w 51 3 ty 26 i0 _ .i64 .i64 Tryz.underlying51 Tryz.underlying3 hi0 hz0 (some ⟨g,0,none⟩) i c (xs.take (i*3)) hold (n+1-i) (by omega) (by omega) (by omega) (by omega) (by rw [hzb];omega) (by rw [hzb,hik];exact growslice_fits hc (by omega))
  rw [hik] at h
  rw [show (n:Int)+1-(i:Int)=((n+1-i:Nat):Int) by omega]
  exact h
 obtain ⟨G,hG⟩:∃ G,G=grownCap w (n+1) c 26:=⟨_,rfl⟩
 obtain ⟨ROW,hROW⟩:∃ ROW:Array Value,ROW=(xs.take (i*3)).toArray++Builtin.zeroCells (Value.agg #[.int .i64 0,.int .i64 0,.int .i64 0]).cells (n+1-i)++Builtin.zeroCells (Value.agg #[.int .i64 0,.int .i64 0,.int .i64 0]).cells (G-(n+1)):=⟨_,rfl⟩
 rw [← hG] at hrz
 rw [← hROW] at hrz
 have hGn:n+1≤G:=by rw [hG];exact grownCap_ge w _ _ _
 have hGm:G≤maxLen:=by rw [hG];exact grownCap_le_maxLen w (n+1) c _ (by unfold maxLen;omega)
 have hG63:G≤9223372036854775807:=by unfold maxLen at hGm;omega
 have hRl:ROW.size=G*3:=by
  rw [hROW]
  simp only [Array.size_append,List.size_toArray,List.length_take,zc_size]
  rw [show (Value.agg #[.int .i64 0,.int .i64 0,.int .i64 0]).cells.size=3 from rfl,hxl]
  omega
 have hRt:∀ j,j<i*3→ROW[j]?=xs[j]?:=fun j hj=>by
  rw [hROW,Array.append_assoc,Array.getElem?_append_left (by simp;omega)]
  simp [List.getElem?_take,hj]
 have hGi:¬ (G=i):=by omega
 have hGim:¬ (G=i+1):=by omega
 have hci:¬ (c=i):=by omega
 have hz2:¬ ((i:Int)=(n:Int)):=by omega
 have hz3:(c:Int)<(n:Int)+1:=by omega
 have hw1:IntKind.i64.wrap ((i:Int)+1)=(i:Int)+1:=IntWalk.i64_in _ (by omega)
 have hw2:IntKind.i64.wrap ((n:Int)+1)=(n:Int)+1:=IntWalk.i64_in _ (by omega)
 have hw3:IntKind.i64.wrap ((n:Int)+1-(i:Int))=(n:Int)+1-(i:Int):=IntWalk.i64_in _ (by omega)
 have hb1:(0:Int)≤(i:Int)+1:=by omega
 have hin:i≤n:=by omega
 have htn:((i:Int)+1).toNat=i+1:=by omega
 have hb3:(i:Int)≤(n:Int):=by omega
 have hB1:Blk (w.alloc (.cells ROW 26)).drew w.heap.size 26 ROW:=(Blk.new w 26 ROW).drew
 have hcpA:∀ ty,(Builtin.copy_ #[51,51] ty #[.slice (some ⟨w.heap.size,i*3,none⟩) (n+1-i) (G-i),.slice (some ⟨vb,0,none⟩) 1 1]).run Tryz.prog (w.alloc (.cells ROW 26)).drew=.ok (goInt ((1:Nat):Int)) ((w.alloc (.cells ROW 26)).drew.setCells w.heap.size (i*3) xv):=fun ty=>by
  have:=run_copyN (P:=Tryz.prog) (w.alloc (.cells ROW 26)).drew 51 51 ty 26 3 w.heap.size (i*3) (n+1-i) (G-i) ⟨vb,0,none⟩ 1 1 xv Tryz.underlying51 hsz (by rw [hvl,show Nat.min 1 (n+1-i)=1 from Nat.min_eq_left (by omega)])
   (fun j v hj=>by rw [Addr.add_lit,Nat.zero_add,((hv.alloc (.cells ROW 26)).drew).cell];simpa using hj)
   (fun j hj=>by rw [hB1.cell,Array.getElem?_eq_getElem (by omega)];rfl) (fun j hj=>hB1.frozen _) h2
  rw [this,show Nat.min 1 (n+1-i)=1 from Nat.min_eq_left (by omega)]
 have hB2:Blk ((w.alloc (.cells ROW 26)).drew.setCells w.heap.size (i*3) xv).drew w.heap.size 26 (putAt ROW (i*3) xv):=(Blk.setCells_ xv (i*3) hB1).drew
 have hO2:Only w.heap.size w ((w.alloc (.cells ROW 26)).drew.setCells w.heap.size (i*3) xv).drew:=(Only.setCells_ xv (i*3) (((Only.refl _ w).alloc _).drew)).drew
 have hgw:g<w.heap.size:=hg.lt
 have hdl:(xs.drop (i*3)).length=(n-i)*3:=by rw [List.length_drop,hxl];omega
 have hcpB:∀ ty,(Builtin.copy_ #[51,51] ty #[.slice (some ⟨w.heap.size,(i+1)*3,none⟩) (n+1-(i+1)) (G-(i+1)),.slice (some ⟨g,i*3,none⟩) (n-i) (c-i)]).run Tryz.prog ((w.alloc (.cells ROW 26)).drew.setCells w.heap.size (i*3) xv).drew=.ok (goInt ((n-i:Nat):Int)) (((w.alloc (.cells ROW 26)).drew.setCells w.heap.size (i*3) xv).drew.setCells w.heap.size ((i+1)*3) (xs.drop (i*3))):=fun ty=>by
  have hmin:Nat.min (n-i) (n+1-(i+1))=n-i:=Nat.min_eq_left (by omega)
  have hg2:Blk ((w.alloc (.cells ROW 26)).drew.setCells w.heap.size (i*3) xv).drew g 26 cur:=hO2.blk hg (by omega)
  have:=run_copyN (P:=Tryz.prog) ((w.alloc (.cells ROW 26)).drew.setCells w.heap.size (i*3) xv).drew 51 51 ty 26 3 w.heap.size ((i+1)*3) (n+1-(i+1)) (G-(i+1)) ⟨g,i*3,none⟩ (n-i) (c-i) (xs.drop (i*3)) Tryz.underlying51 hsz (by rw [hdl,hmin])
   (fun j v hj=>by
    rw [Addr.add_lit,hg2.cell]
    rw [List.getElem?_drop] at hj
    have:=hcell _ v hj
    rw [hg.cell] at this
    exact this)
   (fun j hj=>by rw [hB2.cell,Array.getElem?_eq_getElem (by rw [putAt_size];omega)];rfl) (fun j hj=>hB2.frozen _) (fun v hv=>h1 v (List.mem_of_mem_drop hv))
  rw [this,hmin]
 have HF:Hid (RetIns w base n 3 26 (some ⟨g,0,none⟩) c (xs.take (i*3)++xv++xs.drop (i*3)) (.returned (.slice (some ⟨w.heap.size,0,none⟩) (n+1) G)) (((w.alloc (.cells ROW 26)).drew.setCells w.heap.size (i*3) xv).drew.setCells w.heap.size ((i+1)*3) (xs.drop (i*3)))):=Jh (by
  have hB3:=Blk.setCells_ (xs.drop (i*3)) ((i+1)*3) hB2
  have hO3:=Only.setCells_ (xs.drop (i*3)) ((i+1)*3) hO2
  refine ⟨_,_,rfl,own_of_blk hB hB3 hGn hGm (by rw [putAt_size,putAt_size];exact hRl) ?_ ?_,?_,.inr rfl⟩
  ·have:=put_list (F:=putAt (putAt ROW (i*3) xv) ((i+1)*3) (xs.drop (i*3))) (xs:=xs) (xv:=xv) (a:=i*3) (by omega) (by rw [putAt_size,putAt_size];omega)
    (fun j hj=>by rw [putAt_out _ _ _ j (by omega),putAt_out _ _ _ j (by omega)];exact hRt j hj)
    (fun j hj=>by rw [putAt_out _ _ _ _ (by omega),putAt_in _ _ _ j (by omega) hj])
    (fun j hj=>by rw [hvl,show i*3+3+j=(i+1)*3+j by omega,putAt_in _ _ _ j (by rw [putAt_size];omega) (by omega),List.getElem?_drop])
   rw [hxl,hvl,show n*3+3=(n+1)*3 by omega] at this
   exact this
  ·rw [List.length_append,List.length_append,List.length_take,hdl,hvl];omega
  ·exact ⟨hO3.os,hO3.tape,hO3.output,hO3.size,fun b hb _=>hO3.block b hb (fun e=>by injection e with e;omega)⟩)
 clear hik hold hROW hG hB1 hB2 hO2 hg hct hcell hRt hRl hbg
 go_enter Tryz.func133,Tryz.ntmps133
 go_wp2_with (first|(at_builtin;refine Lib.wpList_append_run _ rfl _ _ _ _ rfl _ _ rfl rfl _ _ (hrz _) ?_))
 go_region_law (refine step_copyN rfl _ _ _ _ rfl _ _ (by simp [Act.eval,Act.put]) (by simp [Act.eval,Act.put]) (hcpB _) ?_)
 go_wp2
 go_ret
 exact HF.out
set_option maxRecDepth 100000 in
set_option maxHeartbeats 4000000 in
theorem insShiftO (w:World) {base n c vb i:Nat} {A:Option Addr} {xs xv:List Value} (ho:w.ownsRow base 26 3 (.slice A n c) n xs) (hv:Blk w vb 26 xv.toArray) (hvA:(Value.slice A n c).ownBlock≠some vb) (hvl:xv.length=3) (h1:∀ v∈xs,v.oneCell'=true) (h2:∀ v∈xv,v.oneCell'=true) (hn:n≤1000000) (hi:i<n) (hc:n+1≤c) :
  Calls Tryz.prog 133 #[.slice A n c,.int .i64 (i:Int),.slice (some ⟨vb,0,none⟩) 1 1] w (RetIns w base n 3 26 A c (xs.take (i*3)++xv++xs.drop (i*3))):=by
 obtain ⟨g,cur,rfl,hbg,hg,hnc,hcm,hcs,hct⟩:=own_blk ho (by omega)
 have hgv:vb≠g:=fun e=>hvA (by rw [e];rfl)
 have hxl:=ho.1
 have hcell:∀ j,j<xs.length→cur[j]?=xs[j]?:=fun j hj=>by
  rw [← hct,List.getElem?_take,if_pos (by omega),Array.getElem?_toList]
 obtain ⟨i0,hi0,hz0,hzs,hzb⟩:=info_parts Tryz.infoOw
 have hsz:(Tryz.prog.info? 26).map (·.size)=some 3:=by rw [hi0];simp [hzs]
 have hdl:(xs.drop (i*3)).length=(n-i)*3:=by rw [List.length_drop,hxl];omega
 have hov:∀ lb cb,(callFunc 148 #[.slice (some ⟨vb,0,none⟩) 1 1,.slice (some ⟨g,(i+1)*3,none⟩) lb cb]).run Tryz.prog w=.ok (.value (.bool false)) w:=fun lb cb=>by
  rw [run_callFunc_extern Tryz.func148 (by kernel_rfl) (by kernel_rfl) (by kernel_rfl) (e:=Extern.SlicesOverlaps.overlaps #[51,51] #[4]) (by kernel_rfl),
   Lib.run_overlaps_apart w 51 4 26 Tryz.underlying51 3 (fun w=>by simp [Go.sizeOf,typeInfo,hi0,hzs]) ⟨vb,0,none⟩ ⟨g,(i+1)*3,none⟩ 1 1 lb cb hgv 26 26 3 cur.size (by unfold Blk at hv;simp [World.shape?,hv,hvl]) (by unfold Blk at hg;simp [World.shape?,hg]) (by omega) (hv.frozen _) (hv.frozen _)]
  rfl
 have hcpA:∀ ty,(Builtin.copy_ #[51,51] ty #[.slice (some ⟨g,(i+1)*3,none⟩) (n+1-(i+1)) (c-(i+1)),.slice (some ⟨g,i*3,none⟩) (n+1-i) (c-i)]).run Tryz.prog w.drew=.ok (goInt ((n-i:Nat):Int)) (w.drew.setCells g ((i+1)*3) (xs.drop (i*3))):=fun ty=>by
  have hmin:Nat.min (n+1-i) (n+1-(i+1))=n-i:=by rw [show n+1-(i+1)=n-i by omega];exact Nat.min_eq_right (by omega)
  have:=run_copyN (P:=Tryz.prog) w.drew 51 51 ty 26 3 g ((i+1)*3) (n+1-(i+1)) (c-(i+1)) ⟨g,i*3,none⟩ (n+1-i) (c-i) (xs.drop (i*3)) Tryz.underlying51 hsz (by rw [hdl,hmin])
   (fun j v hj=>by
    rw [Addr.add_lit,hg.drew.cell]
    rw [List.getElem?_drop] at hj
    rw [hcell _ (List.getElem?_eq_some_iff.1 hj).1]
    exact hj)
   (fun j hj=>by rw [hg.drew.cell,Array.getElem?_eq_getElem (by omega)];rfl) (fun j hj=>hg.drew.frozen _) (fun v hv=>h1 v (List.mem_of_mem_drop hv))
  rw [this,hmin]
 have hB2:Blk (w.drew.setCells g ((i+1)*3) (xs.drop (i*3))) g 26 (putAt cur ((i+1)*3) (xs.drop (i*3))):=Blk.setCells_ _ _ hg.drew
 have hO2:Only g w (w.drew.setCells g ((i+1)*3) (xs.drop (i*3))):=Only.setCells_ _ _ (Only.refl _ w).drew
 have hcpB:∀ ty,(Builtin.copy_ #[51,51] ty #[.slice (some ⟨g,i*3,none⟩) (n+1-i) (c-i),.slice (some ⟨vb,0,none⟩) 1 1]).run Tryz.prog (w.drew.setCells g ((i+1)*3) (xs.drop (i*3)))=.ok (goInt ((1:Nat):Int)) ((w.drew.setCells g ((i+1)*3) (xs.drop (i*3))).setCells g (i*3) xv):=fun ty=>by
  have:=run_copyN (P:=Tryz.prog) (w.drew.setCells g ((i+1)*3) (xs.drop (i*3))) 51 51 ty 26 3 g (i*3) (n+1-i) (c-i) ⟨vb,0,none⟩ 1 1 xv Tryz.underlying51 hsz (by rw [hvl,show Nat.min 1 (n+1-i)=1 from Nat.min_eq_left (by omega)])
   (fun j v hj=>by rw [Addr.add_lit,Nat.zero_add,(hO2.blk hv hgv).cell];simpa using hj)
   (fun j hj=>by rw [hB2.cell,Array.getElem?_eq_getElem (by rw [putAt_size];omega)];rfl) (fun j hj=>hB2.frozen _) h2
  rw [this,show Nat.min 1 (n+1-i)=1 from Nat.min_eq_left (by omega)]
 have HF:Hid (RetIns w base n 3 26 (some ⟨g,0,none⟩) c (xs.take (i*3)++xv++xs.drop (i*3)) (.returned (.slice (some ⟨g,0,none⟩) (n+1) c)) ((w.drew.setCells g ((i+1)*3) (xs.drop (i*3))).setCells g (i*3) xv)):=Jh (by
  have hB3:=Blk.setCells_ xv (i*3) hB2
  have hO3:=Only.setCells_ xv (i*3) hO2
  refine ⟨_,_,rfl,own_of_blk hbg hB3 hc hcm (by rw [putAt_size,putAt_size];exact hcs) ?_ ?_,hO3,.inl rfl⟩
  ·have:=put_list (F:=putAt (putAt cur ((i+1)*3) (xs.drop (i*3))) (i*3) xv) (xs:=xs) (xv:=xv) (a:=i*3) (by omega) (by rw [putAt_size,putAt_size];omega)
    (fun j hj=>by rw [putAt_out _ _ _ j (by omega),putAt_out _ _ _ j (by omega)];exact hcell j (by omega))
    (fun j hj=>by rw [putAt_in _ _ _ j (by rw [putAt_size];omega) hj])
    (fun j hj=>by rw [putAt_out _ _ _ _ (by omega),hvl,show i*3+3+j=(i+1)*3+j by omega,putAt_in _ _ _ j (by omega) (by omega),List.getElem?_drop])
   rw [hxl,hvl,show n*3+3=(n+1)*3 by omega] at this
   exact this
  ·rw [List.length_append,List.length_append,List.length_take,hdl,hvl];omega)
 have hc63:c≤9223372036854775807:=by unfold maxLen at hcm;omega
 have hci:¬ (c=i):=by omega
 have hci1:¬ (c=i+1):=by omega
 have hz2:¬ ((i:Int)=(n:Int)):=by omega
 have hz3:¬ ((c:Int)<(n:Int)+1):=by omega
 have hw1:IntKind.i64.wrap ((i:Int)+1)=(i:Int)+1:=IntWalk.i64_in _ (by omega)
 have hw2:IntKind.i64.wrap ((n:Int)+1)=(n:Int)+1:=IntWalk.i64_in _ (by omega)
 have hb1:(0:Int)≤(i:Int)+1:=by omega
 have hin:i≤n:=by omega
 have htn:((i:Int)+1).toNat=i+1:=by omega
 have htn2:((n:Int)+1).toNat=n+1:=by omega
 have hb3:(i:Int)≤(n:Int):=by omega
 have hb4:(i:Int)≤(n:Int)+1:=by omega
 have hb5:(n:Int)+1≤(c:Int):=by omega
 have hb6:(0:Int)≤(n:Int)+1:=by omega
 clear hB2 hO2 hg hct hcell hbg hvA hgv hcs hcm
 go_enter Tryz.func133,Tryz.ntmps133
 go_wp2_with (simp only [hov])
 go_region_law (refine step_copyN rfl _ _ _ _ rfl _ _ (by simp [Act.eval,Act.put]) (by simp [Act.eval,Act.put]) (hcpA _) ?_)
 go_wp2
 go_ret
 exact HF.out
theorem insM_calls (w:World) {base n c vb i:Nat} {A:Option Addr} {xs xv:List Value} (ho:w.ownsRow base 90 2 (.slice A n c) n xs) (hv:Blk w vb 90 xv.toArray) (hvA:(Value.slice A n c).ownBlock≠some vb) (hvl:xv.length=2) (h1:∀ v∈xs,v.oneCell'=true) (h2:∀ v∈xv,v.oneCell'=true) (hn:n≤1000000) (hB:base≤w.heap.size) (hi:i≤n) :
  Calls Tryz.prog 130 #[.slice A n c,.int .i64 (i:Int),.slice (some ⟨vb,0,none⟩) 1 1] w (RetIns w base n 2 90 A c (xs.take (i*2)++xv++xs.drop (i*2))):=by
 by_cases e:i=n
 ·subst e
  rw [List.take_of_length_le (by rw [ho.1];exact Nat.le_refl _),List.drop_of_length_le (by rw [ho.1];exact Nat.le_refl _),List.append_nil]
  exact insEndM w ho hv hvl h2 hn hB
 ·by_cases hc:c<n+1
  ·exact insGrowM w ho hv hvl h1 h2 hn hB (by omega) hc
  ·exact insShiftM w ho hv hvA hvl h1 h2 hn (by omega) (by omega)
theorem insO_calls (w:World) {base n c vb i:Nat} {A:Option Addr} {xs xv:List Value} (ho:w.ownsRow base 26 3 (.slice A n c) n xs) (hv:Blk w vb 26 xv.toArray) (hvA:(Value.slice A n c).ownBlock≠some vb) (hvl:xv.length=3) (h1:∀ v∈xs,v.oneCell'=true) (h2:∀ v∈xv,v.oneCell'=true) (hn:n≤1000000) (hB:base≤w.heap.size) (hi:i≤n) :
  Calls Tryz.prog 133 #[.slice A n c,.int .i64 (i:Int),.slice (some ⟨vb,0,none⟩) 1 1] w (RetIns w base n 3 26 A c (xs.take (i*3)++xv++xs.drop (i*3))):=by
 by_cases e:i=n
 ·subst e
  rw [List.take_of_length_le (by rw [ho.1];exact Nat.le_refl _),List.drop_of_length_le (by rw [ho.1];exact Nat.le_refl _),List.append_nil]
  exact insEndO w ho hv hvl h2 hn hB
 ·by_cases hc:c<n+1
  ·exact insGrowO w ho hv hvl h1 h2 hn hB (by omega) hc
  ·exact insShiftO w ho hv hvA hvl h1 h2 hn (by omega) (by omega)
end Go.Proofs.YtibnehaibgbliaaGreat.Mf
