/- Laws for the row's walk. -/
import Derived.Test.YtibnehaibgbliaaGreatP15
set_option linter.unusedVariables false
set_option linter.unusedSimpArgs false
open Go.Lib renaming hid → Jh
open List renaming getElem?_toArray → Ja, getElem?_cons_zero → Jb, setIfInBounds_toArray → Jd, set_cons_zero → Je, set_cons_succ → Jf, getElem_cons_zero → Jg, getElem_cons_succ → Ji, getElem_toArray → Jk
namespace Go.Proofs.YtibnehaibgbliaaGreat.Mf
open Go.RowKit Go.Proofs.YtibnehaibgbliaaGreat
abbrev Fits (L:List Int):Prop:=∀ n∈L,0≤n∧n≤9223372036854775807
theorem qbz {L:List Int} (h:Fits L):(us L).length≤10*L.length:=us_len L fun n hn=>by have:=h n hn;omega
theorem qbf:Fits []:=fun _ h=>by cases h
theorem qas {a:Int} {L:List Int} (h1:0≤a) (h2:a≤9223372036854775807) (h:Fits L):Fits (a::L):=List.forall_mem_cons.2 ⟨⟨h1,h2⟩,h⟩
theorem qbn (W:World) {cs:Array Value} {L:List Int} (h:cs.toList=L.map (Value.int .i64)):Nums (W.alloc (.cells cs 3)) W.heap.size L :=
 ⟨cs,Blk.new _ _ _,fun j hj=>by rw [← Array.getElem?_toList,h,List.getElem?_map,gt_at hj];rfl⟩
theorem qa5 (W:World) {cs:Array Value} {L:List Int} {g:Nat} (hg:g=W.heap.size) (h:cs.toList=L.map (Value.int .i64)):Nums (W.alloc (.cells cs 3)) g L:=by subst hg;exact qbn W h
theorem qbh {n:Int} (h:n≤most):n≤9223372036854775807:=by unfold most at h;omega
theorem En.In.f1 {x:En} (h:x.In):Fits [(x.key.size:Int)]:=qas (by omega) (by have:=h.key;omega) qbf
theorem En.In.f2 {x:En} (h:x.In):Fits [x.window,(x.part.size:Int)]:=qas h.window.1 (qbh h.window.2) (qas (by omega) (by have:=h.part;omega) qbf)
theorem En.In.f2a {x:En} (h:x.In):Fits [x.window]:=qas h.window.1 (qbh h.window.2) qbf
theorem En.In.f2b {x:En} (h:x.In):Fits [(x.part.size:Int)]:=qas (by omega) (by have:=h.part;omega) qbf
theorem En.In.f6 {x:En} (h:x.In):Fits [x.first,x.last,x.rows,x.size,x.sum,x.born] :=
 qas h.first.1 (qbh h.first.2) (qas h.last.1 (qbh h.last.2) (qas h.rows.1 (qbh h.rows.2) (qas h.size.1 (qbh h.size.2) (qas h.sum.1 (by have:=h.sum.2;omega) (qas h.born.1 (qbh h.born.2) qbf)))))
theorem encE_len {x:En} (h:x.In):(encE x).length≤1154:=by
 have h1:=qbz h.f1
 have h2:=qbz h.f2
 have h6:=qbz h.f6
 have e1:x.key.data.toList.length=x.key.size:=rfl
 have e2:x.part.data.toList.length=x.part.size:=rfl
 have k1:=h.key
 have k2:=h.part
 unfold encE
 simp only [List.length_append,List.length_cons,List.length_nil] at *
 omega
theorem encE_fl {l:List En} (h:∀ x∈l,x.In):(l.flatMap encE).length≤1154*l.length:=by
 induction l with
 | nil=>simp
 | cons x l ih =>
  have h1:=encE_len (h x List.mem_cons_self)
  have h2:=ih fun y hy=>h y (List.mem_cons_of_mem _ hy)
  rw [List.flatMap_cons,List.length_append,List.length_cons];omega
theorem Md.In.fK {m:Md} (h:m.In) {x:Mk} (hx:x∈m.M):Fits [x.maker,x.seq]:=qas (h.M x hx).1.1 (qbh (h.M x hx).1.2) (qas (h.M x hx).2.1 (qbh (h.M x hx).2.2) qbf)
theorem Md.In.fO {m:Md} (h:m.In) {x:Ow} (hx:x∈m.O):Fits [x.agent,x.life,x.count]:=qas (h.O x hx).1.1 (qbh (h.O x hx).1.2) (qas (h.O x hx).2.1.1 (qbh (h.O x hx).2.1.2) (qas (h.O x hx).2.2.1 (qbh (h.O x hx).2.2.2) qbf))
theorem Md.In.f4 {m:Md} (h:m.In):Fits [m.gen,m.cut,m.fence,(m.E.length:Int)]:=qas h.gen.1 (qbh h.gen.2) (qas h.cut.1 (qbh h.cut.2) (qas h.fence.1 (qbh h.fence.2) (qas (by omega) (by have:=h.le;omega) qbf)))
theorem Md.In.fm {m:Md} (h:m.In):Fits [(m.M.length:Int)]:=qas (by omega) (by have:=h.lm;omega) qbf
theorem Md.In.fo {m:Md} (h:m.In):Fits [(m.O.length:Int)]:=qas (by omega) (by have:=h.lo;omega) qbf
def preE (m:Md) (k:Nat):List UInt8:=(head5++us [m.gen,m.cut,m.fence,(m.E.length:Int)])++(m.E.take k).flatMap encE
def preM (m:Md) (k:Nat):List UInt8:=(preE m m.E.length++us [(m.M.length:Int)])++(m.M.take k).flatMap encK
def preO (m:Md) (k:Nat):List UInt8:=(preM m m.M.length++us [(m.O.length:Int)])++(m.O.take k).flatMap encO
theorem preE_0 (m:Md):preE m 0=head5++us [m.gen,m.cut,m.fence,(m.E.length:Int)]:=by simp [preE]
theorem preM_0 (m:Md):preM m 0=preE m m.E.length++us [(m.M.length:Int)]:=by simp [preM]
theorem preO_0 (m:Md):preO m 0=preM m m.M.length++us [(m.O.length:Int)]:=by simp [preO]
theorem preE_s {m:Md} {k:Nat} (h:k<m.E.length):preE m (k+1)=preE m k++encE (gt m.E k):=by
 unfold preE;rw [qbg h,List.flatMap_append,List.append_assoc,List.append_assoc];simp
theorem preM_s {m:Md} {k:Nat} (h:k<m.M.length):preM m (k+1)=preM m k++us [(gt m.M k).maker,(gt m.M k).seq]:=by
 unfold preM;rw [qbg h,List.flatMap_append];simp [encK]
theorem preO_s {m:Md} {k:Nat} (h:k<m.O.length):preO m (k+1)=preO m k++us [(gt m.O k).agent,(gt m.O k).life,(gt m.O k).count]:=by
 unfold preO;rw [qbg h,List.flatMap_append];simp [encO]
theorem preO_all (m:Md):preO m m.O.length=encT m:=by
 simp only [preO,preM,preE,encT,List.take_length,List.append_assoc]
theorem qd7 {m:Md} (h:m.In) (k:Nat):(preE m k).length≤296000:=by
 have h1:=qbz h.f4
 have h2:=encE_fl (l:=m.E.take k) fun x hx=>h.E x (List.mem_of_mem_take hx)
 have h3:(m.E.take k).length≤256:=by rw [List.length_take];have:=h.le;omega
 have h4:head5.length=5:=rfl
 unfold preE
 simp only [List.length_append,List.length_cons,List.length_nil] at *
 omega
theorem fl_len {α:Type} {f:α→List UInt8} {l:List α} {n:Nat} (h:∀ x∈l,(f x).length≤n):(l.flatMap f).length≤n*l.length:=by
 induction l with
 | nil=>simp
 | cons x l ih =>
  have h1:=h x List.mem_cons_self
  have h2:=ih fun y hy=>h y (List.mem_cons_of_mem _ hy)
  rw [List.flatMap_cons,List.length_append,List.length_cons,Nat.mul_add];omega
theorem qd8 {m:Md} (h:m.In) (k:Nat):(preM m k).length≤298000:=by
 have h1:=qbz h.fm
 have h0:=qd7 h m.E.length
 have h2:=fl_len (f:=encK) (l:=m.M.take k) (n:=20) fun x hx=>qbz (h.fK (List.mem_of_mem_take hx))
 have h3:(m.M.take k).length≤64:=by rw [List.length_take];have:=h.lm;omega
 unfold preM
 simp only [List.length_append,List.length_cons,List.length_nil] at *
 omega
theorem qe7 {m:Md} (h:m.In) (k:Nat):(preO m k).length≤299000:=by
 have h1:=qbz h.fo
 have h0:=qd8 h m.M.length
 have h2:=fl_len (f:=encO) (l:=m.O.take k) (n:=30) fun x hx=>qbz (h.fO (List.mem_of_mem_take hx))
 have h3:(m.O.take k).length≤8:=by rw [List.length_take];have:=h.lo;omega
 unfold preO
 simp only [List.length_append,List.length_cons,List.length_nil] at *
 omega
theorem wrap_i64 {n:Int} (h1:0≤n) (h2:n≤4294967295):IntKind.i64.wrap n=n:=by rw [IntKind.wrap_i64];omega
theorem head_own (W:World) {base:Nat} (hb:base≤W.heap.size) {fr:Nat × Nat}:OwnB (W.alloc (.cells #[.int .u8 77,.int .u8 65,.int .u8 78,.int .u8 73,.int .u8 1] 5 fr)) base (some ⟨W.heap.size,0,none⟩) 5 head5 :=
 .inr ⟨_,_,fr,rfl,rfl,hb,heap_alloc_new W _,fun j u hu=>by
  rw [cell_of_row _ _ j _ _ fr (heap_alloc_new W _)]
  rw [← hu];exact (Array.getElem?_toList (xs:=#[Value.int .u8 77,.int .u8 65,.int .u8 78,.int .u8 73,.int .u8 1])).symm⟩
theorem ent_bytes (pre:List UInt8) (x:En):((((pre++us [(x.key.size:Int)])++x.key.data.toList)++us [x.window,(x.part.size:Int)])++x.part.data.toList)++us [x.first,x.last,x.rows,x.size,x.sum,x.born]=pre++encE x:=by
 unfold encE;simp only [List.append_assoc]
theorem qds {L:List Int} (h:Fits L) {pre:List UInt8} {n:Nat} (hp:pre.length≤n):(pre++us L).length≤n+10*L.length:=by
 have:=qbz h
 rw [List.length_append];omega
theorem qe8 {s:ByteArray} {pre:List UInt8} {n:Nat} (hp:pre.length≤n):(pre++s.data.toList).length≤n+s.size:=by
 have e:s.data.toList.length=s.size:=rfl
 rw [List.length_append];omega
set_option maxRecDepth 100000 in
set_option maxHeartbeats 12800000 in
theorem encR_calls (w:World) {B:Nat} {m:Md} {p:Pl} (h:Man w B m p) (hB:B≤w.heap.size) (hm:m.In) :
  Calls Tryz.prog 19 #[mdV m p] w (RetBytes 5 w (encB m)):=by
 have kc:=Joins.run_convert_bytes_const_at (P:=Tryz.prog) (w.alloc (.cells #[.int .i64 m.gen,.int .i64 m.cut,.int .i64 m.fence,.slice p.AE m.E.length p.cE,.slice p.AM m.M.length p.cM,.slice p.AO m.O.length p.cO] 53)) 33 5 #[.int .u8 77,.int .u8 65,.int .u8 78,.int .u8 73,.int .u8 1] 5 5 (w.heap.size+1) (by simp) Tryz.underlying33 Tryz.underlying5
 have HIn:=Jh hm
 have HR:=Jh fun W (hW:Below w.heap.size w W)=>h.below (hW.mono hB)
 have HK:Hid (∀ W,KU none (w.alloc (.cells #[.int .i64 m.gen,.int .i64 m.cut,.int .i64 m.fence,.slice p.AE m.E.length p.cE,.slice p.AM m.M.length p.cM,.slice p.AO m.O.length p.cO] 53)) W→W.cell? ⟨w.heap.size,0,none⟩=some (.int .i64 m.gen)∧W.cell? ⟨w.heap.size,1,none⟩=some (.int .i64 m.cut)∧W.cell? ⟨w.heap.size,2,none⟩=some (.int .i64 m.fence)∧W.cell? ⟨w.heap.size,3,none⟩=some (.slice p.AE m.E.length p.cE)∧W.cell? ⟨w.heap.size,4,none⟩=some (.slice p.AM m.M.length p.cM)∧W.cell? ⟨w.heap.size,5,none⟩=some (.slice p.AO m.O.length p.cO)):=Jh fun W hW=>by
  have hb:=hW.blk (Blk.new w 53 #[.int .i64 m.gen,.int .i64 m.cut,.int .i64 m.fence,.slice p.AE m.E.length p.cE,.slice p.AM m.M.length p.cM,.slice p.AO m.O.length p.cO]) (by decide) (by simp)
  exact ⟨hb.cell 0,hb.cell 1,hb.cell 2,hb.cell 3,hb.cell 4,hb.cell 5⟩
 have hlE:=h.le
 have HLM:=Jh h.lm
 have HLO:=Jh h.lo
 clear h hm
 obtain ⟨AE,cE,AM,cM,AO,cO⟩:=p
 dsimp only at *
 have HbW:Hid (Below w.heap.size w (((w.alloc (.cells #[.int .i64 m.gen,.int .i64 m.cut,.int .i64 m.fence,.slice AE m.E.length cE,.slice AM m.M.length cM,.slice AO m.O.length cO] 53)).alloc (.cells #[.int .u8 77,.int .u8 65,.int .u8 78,.int .u8 73,.int .u8 1] 5 (5,6))).alloc (.cells #[.int .i64 m.gen,.int .i64 m.cut,.int .i64 m.fence,.int .i64 (m.E.length:Int)] 3))):=Jh ((((Below.refl _ _).alloc (Nat.le_refl _) _).alloc (by simp) _).alloc (by simp;omega) _)
 have HkW:Hid (KU none (w.alloc (.cells #[.int .i64 m.gen,.int .i64 m.cut,.int .i64 m.fence,.slice AE m.E.length cE,.slice AM m.M.length cM,.slice AO m.O.length cO] 53)) (((w.alloc (.cells #[.int .i64 m.gen,.int .i64 m.cut,.int .i64 m.fence,.slice AE m.E.length cE,.slice AM m.M.length cM,.slice AO m.O.length cO] 53)).alloc (.cells #[.int .u8 77,.int .u8 65,.int .u8 78,.int .u8 73,.int .u8 1] 5 (5,6))).alloc (.cells #[.int .i64 m.gen,.int .i64 m.cut,.int .i64 m.fence,.int .i64 (m.E.length:Int)] 3))):=Jh (((KU.refl _ _).alloc _).alloc _)
 have HoW:Hid (OwnB (((w.alloc (.cells #[.int .i64 m.gen,.int .i64 m.cut,.int .i64 m.fence,.slice AE m.E.length cE,.slice AM m.M.length cM,.slice AO m.O.length cO] 53)).alloc (.cells #[.int .u8 77,.int .u8 65,.int .u8 78,.int .u8 73,.int .u8 1] 5 (5,6))).alloc (.cells #[.int .i64 m.gen,.int .i64 m.cut,.int .i64 m.fence,.int .i64 (m.E.length:Int)] 3)) w.heap.size (some ⟨w.heap.size+1,0,none⟩) 5 head5):=Jh (by
  have:=(head_own (w.alloc (.cells #[.int .i64 m.gen,.int .i64 m.cut,.int .i64 m.fence,.slice AE m.E.length cE,.slice AM m.M.length cM,.slice AO m.O.length cO] 53)) (base:=w.heap.size) (by simp) (fr:=(5,6))).below ((Below.refl _ _).alloc (Nat.le_refl _) (.cells #[.int .i64 m.gen,.int .i64 m.cut,.int .i64 m.fence,.int .i64 (m.E.length:Int)] 3))
  simpa using this)
 go_enter Tryz.func19,Tryz.ntmps19
 go_wp2_with fail
 refine (u_calls _ (l:=head5) (base:=w.heap.size) HoW.out (qa5 (L:=[m.gen,m.cut,m.fence,(m.E.length:Int)]) _ (by simp) rfl) HIn.out.f4 (Nat.succ_pos _) (by show 5+10*4≤_;omega) (by simp;omega)).mono ?_
 rintro e W2 ⟨A2,c2,rfl,hown2,hbel2,hku2⟩
 generalize w.alloc (.cells #[.int .i64 m.gen,.int .i64 m.cut,.int .i64 m.fence,.slice AE m.E.length cE,.slice AM m.M.length cM,.slice AO m.O.length cO] 53)=w1 at *
 rw [← preE_0] at hown2 ⊢
 have Hst:Hid (OwnB W2 w.heap.size A2 c2 (preE m 0))∧Hid (Below w.heap.size w W2)∧Hid (KU none w1 W2):=⟨Jh (.inl hown2),Jh (HbW.out.trans hbel2),Jh (HkW.out.trans hku2)⟩
 clear hown2 hbel2 hku2 HbW HkW HoW kc
 obtain ⟨y0,y1,y2,y3,y4,y5⟩:=HK.out _ Hst.2.2.out
 go_wp2
 clear y0 y1 y2 y3 y4 y5
 go_loopw [3,26] (fun v i wr=>∃ (j:Nat) (A':Option Addr) (c':Nat),j≤m.E.length∧i=.int .i64 (j:Int)∧v=.slice A' (preE m j).length c'∧Hid (OwnB wr w.heap.size A' c' (preE m j))∧Hid (Below w.heap.size w wr)∧Hid (KU none w1 wr)) (fun _ i _=>m.E.length-(intOf i).toNat)
 case atStart=>exact ⟨0,_,_,Nat.zero_le _,rfl,rfl,Hst.1,Hst.2.1,Hst.2.2⟩
 case round =>
  clear Hst
  obtain ⟨j,A',c',hj,rfl,rfl,Hown,HbR,HkR⟩:=hrel
  by_cases hlt:j<m.E.length
  ·have hr:=(HR.out wr HbR.out).re
   obtain ⟨b,off,rfl,hbB⟩:=qai hr (by omega)
   obtain ⟨p0,p1,p2,p3,p4,p5,p6,p7,p8⟩:wr.cell? ⟨b,off+j*9,none⟩=some (.string (gt m.E j).key)∧wr.cell? ⟨b,off+j*9+1,none⟩=some (.int .i64 (gt m.E j).window)∧wr.cell? ⟨b,off+j*9+2,none⟩=some (.string (gt m.E j).part)∧wr.cell? ⟨b,off+j*9+3,none⟩=some (.int .i64 (gt m.E j).first)∧wr.cell? ⟨b,off+j*9+4,none⟩=some (.int .i64 (gt m.E j).last)∧wr.cell? ⟨b,off+j*9+5,none⟩=some (.int .i64 (gt m.E j).rows)∧wr.cell? ⟨b,off+j*9+6,none⟩=some (.int .i64 (gt m.E j).size)∧wr.cell? ⟨b,off+j*9+7,none⟩=some (.int .u32 (gt m.E j).sum)∧wr.cell? ⟨b,off+j*9+8,none⟩=some (.int .i64 (gt m.E j).born):=⟨qab qac hr hlt (j:=0) rfl,qab qac hr hlt (j:=1) rfl,qab qac hr hlt (j:=2) rfl,qab qac hr hlt (j:=3) rfl,qab qac hr hlt (j:=4) rfl,qab qac hr hlt (j:=5) rfl,qab qac hr hlt (j:=6) rfl,qab qac hr hlt (j:=7) rfl,qab qac hr hlt (j:=8) rfl⟩
   have HX:=Jh (HIn.out.E _ (qax hlt))
   have HS:Hid (preE m (j+1)=preE m j++encE (gt m.E j)):=Jh (preE_s hlt)
   have HL:=Jh (qd7 HIn.out j)
   have hszr:w.heap.size≤wr.heap.size:=HbR.out.size
   have HBk:=Jh (Blk.new wr 85 #[.string (gt m.E j).key,.int .i64 (gt m.E j).window,.string (gt m.E j).part,.int .i64 (gt m.E j).first,.int .i64 (gt m.E j).last,.int .i64 (gt m.E j).rows,.int .i64 (gt m.E j).size,.int .u32 (gt m.E j).sum,.int .i64 (gt m.E j).born])
   have hbW:=(Below.refl wr.heap.size wr).alloc (Nat.le_refl _) (.cells #[.string (gt m.E j).key,.int .i64 (gt m.E j).window,.string (gt m.E j).part,.int .i64 (gt m.E j).first,.int .i64 (gt m.E j).last,.int .i64 (gt m.E j).rows,.int .i64 (gt m.E j).size,.int .u32 (gt m.E j).sum,.int .i64 (gt m.E j).born] 85)
   have HO:Hid (∀ W,Below (wr.heap.size+1) (wr.alloc (.cells #[.string (gt m.E j).key,.int .i64 (gt m.E j).window,.string (gt m.E j).part,.int .i64 (gt m.E j).first,.int .i64 (gt m.E j).last,.int .i64 (gt m.E j).rows,.int .i64 (gt m.E j).size,.int .u32 (gt m.E j).sum,.int .i64 (gt m.E j).born] 85)) W→OwnB W w.heap.size A' c' (preE m j)):=Jh fun W hW=>(Hown.out.below hbW).below (by simpa using hW)
   have HB1:Hid (∀ W,Below w.heap.size (wr.alloc (.cells #[.string (gt m.E j).key,.int .i64 (gt m.E j).window,.string (gt m.E j).part,.int .i64 (gt m.E j).first,.int .i64 (gt m.E j).last,.int .i64 (gt m.E j).rows,.int .i64 (gt m.E j).size,.int .u32 (gt m.E j).sum,.int .i64 (gt m.E j).born] 85)) W→Below w.heap.size w W):=Jh fun W hW=>(HbR.out.trans (hbW.mono hszr)).trans hW
   have HK1:Hid (∀ W,KU none (wr.alloc (.cells #[.string (gt m.E j).key,.int .i64 (gt m.E j).window,.string (gt m.E j).part,.int .i64 (gt m.E j).first,.int .i64 (gt m.E j).last,.int .i64 (gt m.E j).rows,.int .i64 (gt m.E j).size,.int .u32 (gt m.E j).sum,.int .i64 (gt m.E j).born] 85)) W→KU none w1 W):=Jh fun W hW=>(HkR.out.trans (KU.below hbW)).trans hW
   have HC:Hid (∀ W,KU none (wr.alloc (.cells #[.string (gt m.E j).key,.int .i64 (gt m.E j).window,.string (gt m.E j).part,.int .i64 (gt m.E j).first,.int .i64 (gt m.E j).last,.int .i64 (gt m.E j).rows,.int .i64 (gt m.E j).size,.int .u32 (gt m.E j).sum,.int .i64 (gt m.E j).born] 85)) W→W.cell? ⟨wr.heap.size,0,none⟩=some (.string (gt m.E j).key)∧W.cell? ⟨wr.heap.size,1,none⟩=some (.int .i64 (gt m.E j).window)∧W.cell? ⟨wr.heap.size,2,none⟩=some (.string (gt m.E j).part)∧W.cell? ⟨wr.heap.size,3,none⟩=some (.int .i64 (gt m.E j).first)∧W.cell? ⟨wr.heap.size,4,none⟩=some (.int .i64 (gt m.E j).last)∧W.cell? ⟨wr.heap.size,5,none⟩=some (.int .i64 (gt m.E j).rows)∧W.cell? ⟨wr.heap.size,6,none⟩=some (.int .i64 (gt m.E j).size)∧W.cell? ⟨wr.heap.size,7,none⟩=some (.int .u32 (gt m.E j).sum)∧W.cell? ⟨wr.heap.size,8,none⟩=some (.int .i64 (gt m.E j).born)):=Jh fun W hW=>by
    have h1:=hW.blk HBk.out (by decide) (by simp)
    exact ⟨h1.cell 0,h1.cell 1,h1.cell 2,h1.cell 3,h1.cell 4,h1.cell 5,h1.cell 6,h1.cell 7,h1.cell 8⟩
   have hsz1:(wr.alloc (.cells #[.string (gt m.E j).key,.int .i64 (gt m.E j).window,.string (gt m.E j).part,.int .i64 (gt m.E j).first,.int .i64 (gt m.E j).last,.int .i64 (gt m.E j).rows,.int .i64 (gt m.E j).size,.int .u32 (gt m.E j).sum,.int .i64 (gt m.E j).born] 85)).heap.size=wr.heap.size+1:=by simp
   clear hr hbB Hown HbR HkR hbW HBk
   generalize gt m.E j=x at *
   generalize preE m j=pre at *
   go_wp2_with fail
   generalize hwb:wr.alloc (.cells #[.string x.key,.int .i64 x.window,.string x.part,.int .i64 x.first,.int .i64 x.last,.int .i64 x.rows,.int .i64 x.size,.int .u32 x.sum,.int .i64 x.born] 85)=wb at *
   have hszb:w.heap.size≤wb.heap.size:=by omega
   clear hwb p0 p1 p2 p3 p4 p5 p6 p7 p8
   have HB00:=Jh (Below.refl wb.heap.size wb)
   have HO0:Hid (∀ W,Below wb.heap.size wb W→OwnB W w.heap.size A' c' pre):=Jh fun W hW=>HO.out W (by rw [← hsz1];exact hW)
   have HKb0:Hid (∀ W,Below wb.heap.size wb W→KU none wb W):=Jh fun W hW=>KU.below hW
   clear HO
   have Hkeep:Hid (∀ W,KU none wb W→W.cell? ⟨wr.heap.size,0,none⟩=some (.string x.key)):=Jh fun W hW=>(HC.out W hW).1
   go_region_held3 (fun w'=>w'.cell? ⟨wr.heap.size,0,none⟩=some (.string x.key)) (exact Hkeep.out _ (by first|assumption|exact HKb0.out _ (qaa (Below.refl _ _) 1)|exact HKb0.out _ ((qaa (Below.refl _ _) 1).alloc (Nat.le_refl _) _))) (first
    | (go_at_call 39;have hbd:=(qaa (Below.refl wb.heap.size wb) 1).alloc (Nat.le_refl _) (.cells #[.int .i64 (x.key.size:Int)] 3);refine (u_calls _ (base:=w.heap.size) (HO0.out _ hbd) (qa5 (L:=[(x.key.size:Int)]) _ (by simp;omega) rfl) HX.out.f1 (Nat.succ_pos _) (by have:=HL.out;simp only [List.length_cons,List.length_nil];omega) (by simp;omega)).mono ?_;rintro e W2 ⟨A2,c2,rfl,hown2,hbel2,hku2⟩;have hl2:(pre++us [(x.key.size:Int)]).length≤296010:=qds HX.out.f1 HL.out;generalize hp1:pre++us [(x.key.size:Int)]=q1 at *;have Hp1:=Jh hp1;clear hp1;have hk2:KU none wb W2:=(HKb0.out _ hbd).trans hku2;have hb2:Below w.heap.size wb W2:=(hbd.mono hszb).trans hbel2;have hs2:w.heap.size≤W2.heap.size:=Nat.le_trans hszb hb2.size)
    | (refine qdb rfl (.tmp 35) (.tmp 37) _ _ rfl w.heap.size 5 Tryz.underlying33 Tryz.underlying9 Nu.Tryz.infoU8 rfl hown2 rfl (by have:=HX.out.key;omega) hs2 ?_;intro A3 c3 W3 hown3 hgr3;have hk3:KU none wb W3:=hk2.trans (KU.grown hgr3 hown2);have hb3:Below w.heap.size wb W3:=hb2.trans ((Below.refl _ _).grown hgr3 hs2 (fun k hk=>(hown2.lt k hk).1));generalize hp2:q1++x.key.data.toList=q2 at *;have Hp2:=Jh hp2;clear hp2))
   have HL3:Hid (q2.length≤296050):=Jh (by rw [← Hp2.out];have:=qe8 (s:=x.key) hl2;have:=HX.out.key;omega)
   have HO3:Hid (∀ W,Below W3.heap.size W3 W→OwnB W w.heap.size A3 c3 q2):=Jh fun W hW=>(OwnB.below (.inl hown3) hW)
   have HK3:Hid (∀ W,KU none W3 W→KU none wb W):=Jh fun W hW=>hk3.trans hW
   have HB3:Hid (∀ W,Below w.heap.size W3 W→Below w.heap.size wb W):=Jh fun W hW=>hb3.trans hW
   have HKb3:Hid (∀ W,Below W3.heap.size W3 W→KU none W3 W):=Jh fun W hW=>KU.below hW
   have hs3:w.heap.size≤W3.heap.size:=Nat.le_trans hszb hb3.size
   clear hown2 hbel2 hku2 hl2 hk2 hb2 hs2 hown3 hgr3 hk3 hb3 HO0 HKb0 Hkeep HB00 HL
   have Hkeep:Hid (∀ W,KU none W3 W→W.cell? ⟨wr.heap.size,1,none⟩=some (.int .i64 x.window)∧W.cell? ⟨wr.heap.size,2,none⟩=some (.string x.part)):=Jh fun W hW=>⟨(HC.out W (HK3.out W hW)).2.1,(HC.out W (HK3.out W hW)).2.2.1⟩
   have ho3:wr.heap.size<W3.heap.size:=World.block_lt_of_cell? W3 _ (Hkeep.out W3 (KU.refl _ _)).1
   go_wp2_with fail
   go_region_held3 (fun w'=>w'.cell? ⟨wr.heap.size,1,none⟩=some (.int .i64 x.window)∧w'.cell? ⟨wr.heap.size,2,none⟩=some (.string x.part)) (exact Hkeep.out _ (by first|assumption|exact HKb3.out _ (qaa (Below.refl _ _) 1)|exact HKb3.out _ ((qaa (Below.refl _ _) 1).alloc (Nat.le_refl _) _))) (first
    | (go_at_call 39;have hbd:=(qaa (Below.refl W3.heap.size W3) 1).alloc (Nat.le_refl _) (.cells #[.int .i64 x.window,.int .i64 (x.part.size:Int)] 3);refine (u_calls _ (base:=w.heap.size) (HO3.out _ hbd) (qa5 (L:=[x.window,(x.part.size:Int)]) _ (by simp) rfl) HX.out.f2 (Nat.succ_pos _) (by have:=HL3.out;simp only [List.length_cons,List.length_nil];omega) (by simp;omega)).mono ?_;rintro e W2 ⟨A2,c2,rfl,hown2,hbel2,hku2⟩;have hl2:(q2++us [x.window,(x.part.size:Int)]).length≤296070:=qds HX.out.f2 HL3.out;generalize hp3:q2++us [x.window,(x.part.size:Int)]=q3 at *;have Hp3:=Jh hp3;clear hp3;have hk2:KU none W3 W2:=(HKb3.out _ hbd).trans hku2;have hb2:Below w.heap.size W3 W2:=(hbd.mono hs3).trans hbel2;have hs2:w.heap.size≤W2.heap.size:=Nat.le_trans hs3 hb2.size)
    | (refine qdb rfl (.tmp 46) (.tmp 48) _ _ rfl w.heap.size 5 Tryz.underlying33 Tryz.underlying9 Nu.Tryz.infoU8 rfl hown2 rfl (by have:=HX.out.part;omega) hs2 ?_;intro A5 c5 W5 hown5 hgr5;have hk5':KU none W3 W5:=hk2.trans (KU.grown hgr5 hown2);have hk5:KU none wb W5:=HK3.out _ hk5';have hb5:Below w.heap.size wb W5:=HB3.out _ (hb2.trans ((Below.refl _ _).grown hgr5 hs2 (fun k hk=>(hown2.lt k hk).1)));generalize hp4:q3++x.part.data.toList=q4 at *;have Hp4:=Jh hp4;clear hp4))
   have HL5:Hid (q4.length≤297100):=Jh (by rw [← Hp4.out];have:=qe8 (s:=x.part) hl2;have:=HX.out.part;omega)
   have Hown5:=Jh hown5
   have hs5:w.heap.size≤W5.heap.size:=Nat.le_trans hszb hb5.size
   have HF6:=Jh HX.out.f6
   have hsum:IntKind.i64.wrap x.sum=x.sum:=wrap_i64 HX.out.sum.1 HX.out.sum.2
   obtain ⟨z0,z1,z2,z3,z4,z5,z6,z7,z8⟩:=HC.out W5 hk5
   clear hown2 hbel2 hku2 hl2 hk2 hb2 hs2 hown5 hgr5 hk5' HO3 HK3 HB3 HKb3 Hkeep ho3 HX
   go_wp2_with fail
   have hbd:=(Below.refl W5.heap.size W5).alloc (Nat.le_refl _) (.cells #[.int .i64 x.first,.int .i64 x.last,.int .i64 x.rows,.int .i64 x.size,.int .i64 x.sum,.int .i64 x.born] 3)
   refine (u_calls _ (base:=w.heap.size) (OwnB.below (.inl Hown5.out) hbd) (qa5 (L:=[x.first,x.last,x.rows,x.size,x.sum,x.born]) _ rfl rfl) HF6.out (Nat.succ_pos _) (by have:=HL5.out;simp only [List.length_cons,List.length_nil];omega) (by simp;omega)).mono ?_
   rintro e W6 ⟨A6,c6,rfl,hown6,hbel6,hku6⟩
   have hb6:Below w.heap.size w W6:=HB1.out _ ((hb5.trans (hbd.mono hs5)).trans hbel6)
   have hk6:KU none w1 W6:=HK1.out _ ((hk5.trans (KU.below hbd)).trans hku6)
   have hq:q4++us [x.first,x.last,x.rows,x.size,x.sum,x.born]=preE m (j+1):=by rw [HS.out,← Hp4.out,← Hp3.out,← Hp2.out,← Hp1.out,ent_bytes]
   rw [hq] at hown6 ⊢
   have HO6:Hid (OwnB W6 w.heap.size A6 c6 (preE m (j+1))):=Jh (.inl hown6)
   have HB6:=Jh hb6
   have HK6:=Jh hk6
   clear hown6 hbel6 hku6 hb6 hk6 hq hbd HL5 Hown5 HF6 HL3 HS HC HB1 HK1 Hp1 Hp2 Hp3 Hp4 hk5 hb5 z0 z1 z2 z3 z4 z5 z6 z7 z8
   go_wp2
   go_roundw
   case rel=>exact ⟨j+1,A6,c6,by omega,by go_num,rfl,HO6,HB6,HK6⟩
   case measure=>simp [intOf];omega
  obtain rfl:j=m.E.length:=by omega
  have hszr:w.heap.size≤wr.heap.size:=HbR.out.size
  have HL:=Jh (qd7 HIn.out m.E.length)
  have HEn:Hid (preE m m.E.length++us [(m.M.length:Int)]=preM m 0):=Jh (preM_0 m).symm
  obtain ⟨y0,y1,y2,y3,y4,y5⟩:=HK.out _ HkR.out
  have hlen:m.M.length≤17592186044416:=HLM.out
  generalize preE m m.E.length=pre at *
  go_wp2_with fail
  have hbW:=(Below.refl wr.heap.size wr).alloc (Nat.le_refl _) (.cells #[.int .i64 (m.M.length:Int)] 3)
  refine (u_calls _ (base:=w.heap.size) (Hown.out.below hbW) (qa5 (L:=[(m.M.length:Int)]) _ (by simp) rfl) HIn.out.fm (Nat.succ_pos _) (by have:=HL.out;simp only [List.length_cons,List.length_nil];omega) (by simp;omega)).mono ?_
  rintro e W2 ⟨A2,c2,rfl,hown2,hbel2,hku2⟩
  have HB2:=Jh ((HbR.out.trans (hbW.mono hszr)).trans hbel2)
  have HK2:=Jh ((HkR.out.trans (KU.below hbW)).trans hku2)
  rw [HEn.out] at hown2 ⊢
  have Hst:Hid (OwnB W2 w.heap.size A2 c2 (preM m 0))∧Hid (Below w.heap.size w W2)∧Hid (KU none w1 W2):=⟨Jh (.inl hown2),HB2,HK2⟩
  clear hown2 hbel2 hku2 hbW HL HEn Hown HbR HkR HB2 HK2 y0 y1 y2 y3 y4 y5
  have hz:=HK.out _ Hst.2.2.out
  obtain ⟨y0,y1,y2,y3,y4,y5⟩:=hz
  go_wp2
  clear y0 y1 y2 y3 y4 y5
  go_loopw [3,76] (fun v i wr=>∃ (j:Nat) (A':Option Addr) (c':Nat),j≤m.M.length∧i=.int .i64 (j:Int)∧v=.slice A' (preM m j).length c'∧Hid (OwnB wr w.heap.size A' c' (preM m j))∧Hid (Below w.heap.size w wr)∧Hid (KU none w1 wr)) (fun _ i _=>m.M.length-(intOf i).toNat)
  case atStart=>exact ⟨0,_,_,Nat.zero_le _,rfl,rfl,Hst.1,Hst.2.1,Hst.2.2⟩
  case round =>
   clear Hst
   obtain ⟨j,A',c',hj,rfl,rfl,Hown,HbR,HkR⟩:=hrel
   by_cases hlt:j<m.M.length
   ·have hr:=(HR.out wr HbR.out).rm
    obtain ⟨b,off,rfl,hbB⟩:=qai hr (by omega)
    obtain ⟨p0,p1⟩:wr.cell? ⟨b,off+j*2,none⟩=some (.int .i64 (gt m.M j).maker)∧wr.cell? ⟨b,off+j*2+1,none⟩=some (.int .i64 (gt m.M j).seq):=⟨qab qat hr hlt (j:=0) rfl,qab qat hr hlt (j:=1) rfl⟩
    have HF:=Jh (HIn.out.fK (qax hlt))
    have HS:Hid (preM m (j+1)=_):=Jh (preM_s hlt)
    have HL:=Jh (qd8 HIn.out j)
    have hszr:w.heap.size≤wr.heap.size:=HbR.out.size
    have HO:Hid (∀ W,Below wr.heap.size wr W→OwnB W w.heap.size A' c' (preM m j)):=Jh fun W hW=>Hown.out.below hW
    have HB1:Hid (∀ W,Below wr.heap.size wr W→Below w.heap.size w W):=Jh fun W hW=>HbR.out.trans (hW.mono hszr)
    have HK1:Hid (∀ W,Below wr.heap.size wr W→KU none w1 W):=Jh fun W hW=>HkR.out.trans (KU.below hW)
    clear hr hbB Hown HbR HkR
    generalize gt m.M j=x at *
    generalize preM m j=pre at *
    go_wp2_with fail
    have hbW:=((Below.refl wr.heap.size wr).alloc (Nat.le_refl _) (.cells #[.int .i64 x.maker,.int .i64 x.seq] 90)).alloc (show wr.heap.size≤(wr.alloc (.cells #[.int .i64 x.maker,.int .i64 x.seq] 90)).heap.size by simp) (.cells #[.int .i64 x.maker,.int .i64 x.seq] 3)
    refine (u_calls _ (base:=w.heap.size) (HO.out _ hbW) (qa5 (L:=[x.maker,x.seq]) _ (by simp) rfl) HF.out (Nat.succ_pos _) (by have:=HL.out;simp only [List.length_cons,List.length_nil];omega) (by simp;omega)).mono ?_
    rintro e W2 ⟨A2,c2,rfl,hown2,hbel2,hku2⟩
    have HB2:=Jh ((HB1.out _ hbW).trans hbel2)
    have HK2:=Jh ((HK1.out _ hbW).trans hku2)
    rw [← HS.out] at hown2 ⊢
    have HO2:Hid (OwnB W2 w.heap.size A2 c2 (preM m (j+1))):=Jh (.inl hown2)
    clear hown2 hbel2 hku2 hbW HS HL HO HB1 HK1 HF
    go_wp2
    go_roundw
    case rel=>exact ⟨j+1,A2,c2,by omega,by go_num,rfl,HO2,HB2,HK2⟩
    case measure=>simp [intOf];omega
   obtain rfl:j=m.M.length:=by omega
   have hszr:w.heap.size≤wr.heap.size:=HbR.out.size
   have HL:=Jh (qd8 HIn.out m.M.length)
   have HEn:Hid (preM m m.M.length++us [(m.O.length:Int)]=preO m 0):=Jh (preO_0 m).symm
   obtain ⟨y0,y1,y2,y3,y4,y5⟩:=HK.out _ HkR.out
   have hlen:m.O.length≤17592186044416:=HLO.out
   generalize preM m m.M.length=pre at *
   go_wp2_with fail
   have hbW:=(Below.refl wr.heap.size wr).alloc (Nat.le_refl _) (.cells #[.int .i64 (m.O.length:Int)] 3)
   refine (u_calls _ (base:=w.heap.size) (Hown.out.below hbW) (qa5 (L:=[(m.O.length:Int)]) _ (by simp) rfl) HIn.out.fo (Nat.succ_pos _) (by have:=HL.out;simp only [List.length_cons,List.length_nil];omega) (by simp;omega)).mono ?_
   rintro e W2 ⟨A2,c2,rfl,hown2,hbel2,hku2⟩
   have HB2:=Jh ((HbR.out.trans (hbW.mono hszr)).trans hbel2)
   have HK2:=Jh ((HkR.out.trans (KU.below hbW)).trans hku2)
   rw [HEn.out] at hown2 ⊢
   have Hst:Hid (OwnB W2 w.heap.size A2 c2 (preO m 0))∧Hid (Below w.heap.size w W2)∧Hid (KU none w1 W2):=⟨Jh (.inl hown2),HB2,HK2⟩
   clear hown2 hbel2 hku2 hbW HL HEn Hown HbR HkR HB2 HK2 y0 y1 y2 y3 y4 y5
   have hz:=HK.out _ Hst.2.2.out
   obtain ⟨y0,y1,y2,y3,y4,y5⟩:=hz
   go_wp2
   clear y0 y1 y2 y3 y4 y5
   go_loopw [3,97] (fun v i wr=>∃ (j:Nat) (A':Option Addr) (c':Nat),j≤m.O.length∧i=.int .i64 (j:Int)∧v=.slice A' (preO m j).length c'∧Hid (OwnB wr w.heap.size A' c' (preO m j))∧Hid (Below w.heap.size w wr)∧Hid (KU none w1 wr)) (fun _ i _=>m.O.length-(intOf i).toNat)
   case atStart=>exact ⟨0,_,_,Nat.zero_le _,rfl,rfl,Hst.1,Hst.2.1,Hst.2.2⟩
   case round =>
    clear Hst
    obtain ⟨j,A',c',hj,rfl,rfl,Hown,HbR,HkR⟩:=hrel
    by_cases hlt:j<m.O.length
    ·have hr:=(HR.out wr HbR.out).ro
     obtain ⟨b,off,rfl,hbB⟩:=qai hr (by omega)
     obtain ⟨p0,p1,p2⟩:wr.cell? ⟨b,off+j*3,none⟩=some (.int .i64 (gt m.O j).agent)∧wr.cell? ⟨b,off+j*3+1,none⟩=some (.int .i64 (gt m.O j).life)∧wr.cell? ⟨b,off+j*3+2,none⟩=some (.int .i64 (gt m.O j).count):=⟨qab qao hr hlt (j:=0) rfl,qab qao hr hlt (j:=1) rfl,qab qao hr hlt (j:=2) rfl⟩
     have HF:=Jh (HIn.out.fO (qax hlt))
     have HS:Hid (preO m (j+1)=_):=Jh (preO_s hlt)
     have HL:=Jh (qe7 HIn.out j)
     have hszr:w.heap.size≤wr.heap.size:=HbR.out.size
     have HO:Hid (∀ W,Below wr.heap.size wr W→OwnB W w.heap.size A' c' (preO m j)):=Jh fun W hW=>Hown.out.below hW
     have HB1:Hid (∀ W,Below wr.heap.size wr W→Below w.heap.size w W):=Jh fun W hW=>HbR.out.trans (hW.mono hszr)
     have HK1:Hid (∀ W,Below wr.heap.size wr W→KU none w1 W):=Jh fun W hW=>HkR.out.trans (KU.below hW)
     clear hr hbB Hown HbR HkR
     generalize gt m.O j=x at *
     generalize preO m j=pre at *
     go_wp2_with fail
     have hbW:=((Below.refl wr.heap.size wr).alloc (Nat.le_refl _) (.cells #[.int .i64 x.agent,.int .i64 x.life,.int .i64 x.count] 26)).alloc (show wr.heap.size≤(wr.alloc (.cells #[.int .i64 x.agent,.int .i64 x.life,.int .i64 x.count] 26)).heap.size by simp) (.cells #[.int .i64 x.agent,.int .i64 x.life,.int .i64 x.count] 3)
     refine (u_calls _ (base:=w.heap.size) (HO.out _ hbW) (qa5 (L:=[x.agent,x.life,x.count]) _ (by simp) rfl) HF.out (Nat.succ_pos _) (by have:=HL.out;simp only [List.length_cons,List.length_nil];omega) (by simp;omega)).mono ?_
     rintro e W2 ⟨A2,c2,rfl,hown2,hbel2,hku2⟩
     have HB2:=Jh ((HB1.out _ hbW).trans hbel2)
     have HK2:=Jh ((HK1.out _ hbW).trans hku2)
     rw [← HS.out] at hown2 ⊢
     have HO2:Hid (OwnB W2 w.heap.size A2 c2 (preO m (j+1))):=Jh (.inl hown2)
     clear hown2 hbel2 hku2 hbW HS HL HO HB1 HK1 HF
     go_wp2
     go_roundw
     case rel=>exact ⟨j+1,A2,c2,by omega,by go_num,rfl,HO2,HB2,HK2⟩
     case measure=>simp [intOf];omega
    obtain rfl:j=m.O.length:=by omega
    have hszr:w.heap.size≤wr.heap.size:=HbR.out.size
    have HL:=Jh (qe7 HIn.out m.O.length)
    have HEn:=Jh (preO_all m)
    have hby:=Hown.out.bytes
    rw [HEn.out] at HL hby ⊢
    have hbr:=HbR.out
    clear Hown HkR HK HR HIn HbR HEn
    have hbm:Hid (encB m=Cr.cseal (encT m)):=Jh rfl
    generalize encT m=T at *
    go_wp2_with fail
    refine (Cr.sealR_calls wr hby (Nat.le_refl _) (by have:=HL.out;omega)).mono ?_
    rintro e W7 hret
    obtain ⟨v,rfl,hown7,hbel7⟩:=hret
    have hown8:=qa7 hown7 hszr
    have hbel8:=hbr.trans (hbel7.mono hszr)
    clear hown7 hbel7 hby hbr
    go_wp2
    go_ret
    exact ⟨v,rfl,by rw [hbm.out];exact hown8,hbel8⟩
def Bx (w:World) (gb base:Nat) (l:List UInt8):Prop:=∃ A c,Blk w gb 33 #[.slice A l.length c]∧OwnB w base A c l
theorem Bx.below {w w':World} {gb base:Nat} {l:List UInt8} (h:Bx w gb base l) (hb:Below w.heap.size w w'):Bx w' gb base l:=by
 obtain ⟨A,c,h1,h2⟩:=h
 exact ⟨A,c,h1.below hb h1.lt,h2.below hb⟩
def RetPt (gb base:Nat) (w:World) (l:List UInt8) (e:Ending) (w':World):Prop:=e=.returned (.tuple #[])∧Bx w' gb base l∧Below base w w'∧KU (some gb) w w'
set_option maxRecDepth 100000 in
set_option maxHeartbeats 1600000 in
theorem qbv (w:World) {base gb g c2:Nat} {l:List UInt8} {L:List Int} (hbx:Bx w gb base l) (hgb:base≤gb) (hL:Nums w g L) (h0:Fits L) (hl:l.length+10*L.length≤100000000) (hb:base≤w.heap.size) :
  Calls Tryz.prog 59 #[.slice (some ⟨g,0,none⟩) L.length c2,.pointer (some ⟨gb,0,none⟩)] w (RetPt gb base w (l++us L)):=by
 have H0:=Jh h0
 clear h0
 have hw0:Hid (Bx w gb base (l++us (L.take 0))):=Jh (by simpa [us] using hbx)
 have HE:=Jh (us_all L)
 have hgne:Hid (some g≠some gb):=Jh (by
  obtain ⟨A,c,h1,_⟩:=hbx
  obtain ⟨cs,h2,_⟩:=hL
  exact fun e=>h1.ne_ h2 (by decide) (by injection e with e;exact e.symm))
 clear hbx
 go_enter Tryz.func59,Tryz.ntmps59
 go_wp2
 go_loopw [7] (fun i wr=>∃ j:Nat,j≤L.length∧i=.int .i64 (j:Int)∧Hid (Bx wr gb base (l++us (L.take j)))∧Hid (Below base w wr)∧Hid (KU (some gb) w wr)) (fun i _=>L.length-(intOf i).toNat)
 case atStart=>exact ⟨0,Nat.zero_le _,rfl,hw0,Jh (Below.refl _ _),Jh (KU.refl _ _)⟩
 case round =>
  clear hw0
  obtain ⟨j,hj,rfl,HX,HB,HK⟩:=hrel
  by_cases hlt:j<L.length
  ·have cj:=(hL.keep HK.out hgne.out).cell hlt
   have hx0:=H0.out _ (qax hlt)
   obtain ⟨x,hx⟩:∃ x:Nat,gt L j=(x:Int):=⟨(gt L j).toNat,by omega⟩
   have Hu:Hid (l++us (L.take (j+1))=(l++us (L.take j))++Nu.putU x):=Jh (by rw [us_take hlt hx,List.append_assoc])
   have Hr:=Jh (us_room j H0.out)
   rw [hx] at cj hx0
   clear hx
   have hpl:=Nu.putU_len10 (n:=x) (by omega)
   have hpp:=Nu.putU_pos x
   have HP:=fun W=>Nu.putU_calls x W hpl
   have hwx:IntKind.u64.wrap (x:Int)=(x:Int):=by rw [IntKind.wrap_u64];omega
   have Hsz:Hid ((l++us (L.take j)).length+(Nu.putU x).length≤100000100):=Jh (by rw [List.length_append];have:=Hr.out;omega)
   generalize l++us (L.take j)=pre at *
   obtain ⟨A,c,hbk,hob⟩:=HX.out
   have HBk:=Jh hbk
   have HOb:=Jh hob
   have hc0:wr.cell? ⟨gb,0,none⟩=some (.slice A pre.length c):=hbk.cell 0
   have hgl:=hbk.lt
   have hszr:base≤wr.heap.size:=Nat.le_trans hb HB.out.size
   clear hbk hob HX
   go_wp2_with fail
   have HW0:Hid (Below wr.heap.size wr wr.drew):=Jh (qaa (Below.refl _ _) 1)
   refine qag 5 (fun w'=>w'.cell? ⟨gb,0,none⟩=some (.slice A pre.length c)) (by kernel_rfl) hc0 (fun hHeld=>?_)
   generalize wr.drew=wd at *
   apply tkT 0
   apply tkT 1
   apply tkT 2
   refine qad (i:=3) (by kernel_rfl) rfl (fun K hK=>?_);go_simp
   refine (HP wd).mono ?_
   rintro e w1 he
   obtain ⟨A1,c1,rfl,hc1,hm1,hb1,hbel1,hown1⟩:=he.opened
   have hb01:Below wr.heap.size wr w1:=HW0.out.trans (hbel1.mono HW0.out.size)
   have hh1:=(HBk.out.below hb01 hgl).cell 0
   refine hK.out _ _ (fun _=>hh1) ?_
   clear hK K hHeld
   have HB1:=Jh hb01
   have HO1:=Jh (HOb.out.below hb01)
   clear he hown1 hbel1 HP
   (try simp only [Act.put,Jk,Jg,Ji,Jd,Je,Jf])
   refine qad (i:=4) (by kernel_rfl) rfl (fun K hK=>?_)
   refine step_append_B _ rfl (.tmp 11) (.tmp 14) _ rfl base Tryz.underlying33 Nu.Tryz.infoU8 rfl HO1.out rfl hb1 hpp Hsz.out (Nat.le_trans hszr HB1.out.size) ?_
   intro A2 c2 w2 hown2 hbel2 hku2
   have hbk2:Blk w2 gb 33 #[.slice A pre.length c]:=hku2.blk (HBk.out.below hb01 hgl) (by decide) (by simp)
   have hh2:=hbk2.cell 0
   refine hK.out _ _ (fun _=>hh2) ?_
   clear hK K
   have hf2:=hbk2.frozen 0
   have HBx:Hid (Bx (w2.setCell ⟨gb,0,none⟩ (.slice A2 (pre++Nu.putU x).length c2)) gb base (pre++Nu.putU x)):=Jh ⟨A2,c2,hbk2.set_ 0 _,OwnB.set (.inl hown2) hbk2 (by decide) 0 _⟩
   have HBl:Hid (Below base w (w2.setCell ⟨gb,0,none⟩ (.slice A2 (pre++Nu.putU x).length c2))):=Jh (((HB.out.trans (hb01.mono hszr)).trans hbel2).setCell hgb _)
   have HKl:Hid (KU (some gb) w (w2.setCell ⟨gb,0,none⟩ (.slice A2 (pre++Nu.putU x).length c2))):=Jh (((HK.out.trans (KU.below hb01)).trans hku2.low).set rfl 0 _)
   rw [← Hu.out] at HBx HBl HKl ⊢
   generalize hnx:l++us (L.take (j+1))=nx at *
   have Hnx:=Jh hnx
   clear hnx Hu
   clear hown2 hbel2 hku2 hbk2 hb1 hb01 HB1 HO1 HBk HOb HB HK
   (try simp only [Act.put,Jk,Jg,Ji,Jd,Je,Jf])
   refine qad (i:=5) (by kernel_rfl) rfl (fun K hK=>?_);go_simp
   refine hK.out _ _ (fun h=>absurd rfl h) (qaf (by kernel_rfl) ?_ _)
   clear hK K
   go_wp2
   go_roundw
   case rel=>exact ⟨j+1,by omega,by go_num,by rw [Hnx.out];exact HBx,HBl,HKl⟩
   case measure=>simp [intOf];omega
  obtain rfl:j=L.length:=by omega
  rw [HE.out] at HX
  go_wp2
  go_end0
  exact ⟨rfl,HX.out,HB.out,HK.out⟩
abbrev putF (gb:Nat):Value:=.func (.func 59) #[] #[.pointer (some ⟨gb,0,none⟩)]
set_option maxRecDepth 100000 in
set_option maxHeartbeats 1600000 in
theorem text_calls (w:World) {base gb gp:Nat} {l:List UInt8} {s:ByteArray} (hbx:Bx w gb base l) (hp:Blk w gp 128 #[putF gb]) (hgb:base≤gb) (hl:l.length+s.size≤90000000) (hb:base≤w.heap.size) :
  Calls Tryz.prog 61 #[.string s,.pointer (some ⟨gp,0,none⟩),.pointer (some ⟨gb,0,none⟩)] w (RetPt gb base w ((l++us [(s.size:Int)])++s.data.toList)):=by
 have hc:w.cell? ⟨gp,0,none⟩=some (.func (.func 59) #[] #[.pointer (some ⟨gb,0,none⟩)]):=hp.cell 0
 have HP:=Jh fun W (hW:Below w.heap.size w W) (hN:Nums W w.heap.size [(s.size:Int)])=>qbv W (c2:=1) (hbx.below hW) hgb hN (qas (by omega) (by omega) qbf) (by simp only [List.length_cons,List.length_nil];omega) (Nat.le_trans hb hW.size)
 have HL:=qds (L:=[(s.size:Int)]) (qas (by omega) (by omega) qbf) (pre:=l) (Nat.le_refl _)
 have HL2:=Jh HL
 generalize hq:(l++us [(s.size:Int)])++s.data.toList=q at *
 have Hq:=Jh hq
 clear HL hbx hq
 go_enter Tryz.func61,Tryz.ntmps61
 go_wp2_with fail
 have hbd:=(Below.refl w.heap.size w).alloc (Nat.le_refl _) (.cells #[.int .i64 (s.size:Int)] 3)
 refine (HP.out _ hbd (qbn w rfl)).mono ?_
 rintro e w2 ⟨rfl,hbx2,hbel2,hku2⟩
 have hb2:Below base w w2:=(hbd.mono hb).trans hbel2
 have hk2:KU (some gb) w w2:=(KU.below hbd).trans hku2
 have hs2:base≤w2.heap.size:=Nat.le_trans hb hb2.size
 obtain ⟨A,c,hbk,hob⟩:=hbx2
 have hl2:=HL2.out
 generalize hpre:l++us [(s.size:Int)]=pre at *
 have hc2:=hbk.cell 0
 have hgl:=hbk.lt
 have HBk:=Jh hbk
 have HOb:=Jh hob
 clear hbk hob hpre HP hbel2 hku2 hbd
 simp only [Ja,Jb] at hc2
 go_wp2_with (at_builtin;go_must (refine qem _ rfl (.tmp 9) (.tmp 10) _ _ rfl base Tryz.underlying33 Tryz.underlying9 Nu.Tryz.infoU8 rfl HOb.out rfl (by simp only [List.length_cons,List.length_nil] at hl2;omega) hs2 ?_))
 intro A3 c3 w3 hown3 hbel3 hku3
 have hbk3:Blk w3 gb 33 #[.slice A pre.length c]:=hku3.blk HBk.out (by decide) (by simp)
 have hc3:=hbk3.cell 0
 have hf3:=hbk3.frozen 0
 have hlq:pre.length+s.size=q.length:=by rw [← Hq.out];simp
 rw [Hq.out] at hown3
 rw [hlq]
 have HBx:Hid (Bx (w3.setCell ⟨gb,0,none⟩ (.slice A3 q.length c3)) gb base q):=Jh ⟨A3,c3,hbk3.set_ 0 _,OwnB.set hown3 hbk3 (by decide) 0 _⟩
 have HBl:Hid (Below base w (w3.setCell ⟨gb,0,none⟩ (.slice A3 q.length c3))):=Jh ((hb2.trans hbel3).setCell hgb _)
 have HKl:Hid (KU (some gb) w (w3.setCell ⟨gb,0,none⟩ (.slice A3 q.length c3))):=Jh ((hk2.trans hku3.low).set rfl 0 _)
 clear hown3 hbel3 hku3 hbk3 HBk HOb hb2 hk2 HL2 Hq
 go_wp2
 go_end0
 exact ⟨rfl,HBx.out,HBl.out,HKl.out⟩
end Go.Proofs.YtibnehaibgbliaaGreat.Mf
