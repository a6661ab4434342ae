/- Laws for the row's walk. -/
import Derived.Test.YtibnehaibgbliaaGreatP16
set_option linter.unusedVariables false
set_option linter.unusedSimpArgs false
open Go.Lib renaming hid → Jh
open List renaming getElem?_toArray → Ja, getElem?_cons_zero → Jb, getElem?_cons_succ → Jc, setIfInBounds_toArray → Jd, set_cons_zero → Je, set_cons_succ → Jf, getElem_cons_zero → Jg, getElem_cons_succ → Ji, getElem_toArray → Jk
namespace Go.Proofs.YtibnehaibgbliaaGreat.Mf
open Go.RowKit Go.Proofs.YtibnehaibgbliaaGreat
theorem parB_len {s:ByteArray} (h:parB s=true):s.size≤1024:=by
 obtain ⟨l,h1,h2⟩:∃ l,Lb.ParP s.data.toList l:=by unfold parB at h;simpa using h
 have h3:s.data.toList.length=s.size:=rfl
 have hl:=Lb.textK_len h1 l.length (Nat.le_refl _)
 have h4:l.length≤4:=(of_decide_eq_true h1).1
 rw [← h2] at h3
 unfold Lb.textB at h3
 simp only [List.length_cons,List.length_append,List.length_nil] at h3
 omega
theorem enB_f {x:En} (h:enB x=true) (hk:x.Ok):x.In:=by
 unfold enB keyB numB at h
 simp only [Bool.and_eq_true,decide_eq_true_eq] at h
 obtain ⟨⟨⟨⟨⟨⟨⟨⟨⟨⟨h1,h2⟩,h3⟩,h4⟩,h5⟩,h6⟩,h7⟩,h8⟩,h9⟩,h10⟩,h11⟩:=h
 have hp:=parB_len h1
 have hk2:=h2.2.1
 exact ⟨hk2,hp,⟨h3.1,by unfold most;omega⟩,⟨h4,by unfold most;omega⟩,⟨by omega,by unfold most;omega⟩,⟨by omega,by unfold most;omega⟩,⟨by omega,by unfold most;omega⟩,hk.sum,⟨h11.1,by unfold most;omega⟩⟩
theorem right_in {m:Md} (h:qar m=true) (hk:∀ x∈m.E,x.Ok):m.In:=by
 have hF:=qcb h
 have hM:=qcv (l:=m.M) (a:=1) (b:=64) hF.srtM (fun x hx=>(mk_in (hF.mkM x hx)).1) (by omega)
 have hO:=qcv (l:=m.O) (a:=1) (b:=8) hF.srtO (fun x hx=>(ow_in (hF.owO x hx)).1) (by omega)
 refine ⟨⟨hF.gen.1,by have:=hF.gen;unfold most;omega⟩,⟨hF.cut.1,by have:=hF.cut;unfold most;omega⟩,⟨hF.fence.1,by have:=hF.fence;unfold most;omega⟩,hF.lenE,by omega,by omega,fun x hx=>enB_f (hF.enE x hx) (hk x hx),fun x hx=>?_,fun x hx=>?_⟩
 ·have h1:=hF.mkM x hx
  unfold mkB numB at h1
  simp only [Bool.and_eq_true,decide_eq_true_eq] at h1
  unfold most
  omega
 ·have h1:=hF.owO x hx
  unfold owB numB at h1
  simp only [Bool.and_eq_true,decide_eq_true_eq] at h1
  unfold most
  omega
theorem ent_bytes2 (pre:List UInt8) (x:En):(((((pre++us [(x.key.size:Int)])++x.key.data.toList)++us [x.window])++us [(x.part.size:Int)])++x.part.data.toList)++us [x.first,x.last,x.rows,x.size,x.sum,x.born]=pre++encE x:=by
 unfold encE
 rw [us_split x.window [(x.part.size:Int)] _ (by simp)]
 simp only [List.append_assoc]
noncomputable def encD (m:Md):List UInt8:=if qar m=true then encB m else []
noncomputable def encEr (m:Md):Int:=if qar m=true then 0 else 4
def RetEnc (w:World) (m:Md) (e:Ending) (w':World):Prop:=∃ A c,e=.returned (.tuple #[.slice A (encD m).length c,.int .i64 (encEr m)])∧w'.ownsRow w.heap.size 5 1 (.slice A (encD m).length c) (encD m).length ((encD m).map byteV)∧Below w.heap.size w w'
theorem store_new {P:Program} (W:World) {v z:Value} (hv:v.oneCell'=true) {t:TypeId} {n:Nat} (hn:n=W.heap.size):(store ⟨n,0,none⟩ v).run P (W.alloc (.cells #[z] t))=.ok () (W.alloc (.cells #[v] t)):=by
 have hb:Blk (W.alloc (.cells #[z] t)) n t #[z]:=by rw [hn];exact Blk.new _ _ _
 subst hn
 rw [run_store _ _ _ _ _ hv,hb.cell 0,hb.frozen 0,World.setCell_alloc_new]
 rfl
theorem head_bx (w1:World) {base:Nat} (hb:base≤w1.heap.size) (v:Value):Bx (((w1.alloc (.cells #[.int .u8 77,.int .u8 65,.int .u8 78,.int .u8 73,.int .u8 1] 5 (5,6))).alloc (.cells #[.slice (some ⟨w1.heap.size,0,none⟩) 5 5] 33)).alloc (.cells #[v] 128)) (w1.heap.size+1) base head5:=by
 have h1:=(head_own w1 hb (fr:=(5,6))).below ((Below.refl _ _).alloc (Nat.le_refl _) (.cells #[.slice (some ⟨w1.heap.size,0,none⟩) 5 5] 33))
 have h2:=Blk.new (w1.alloc (.cells #[.int .u8 77,.int .u8 65,.int .u8 78,.int .u8 73,.int .u8 1] 5 (5,6))) 33 #[.slice (some ⟨w1.heap.size,0,none⟩) 5 5]
 rw [World.size_alloc] at h2
 exact Bx.below ⟨_,_,h2,h1⟩ ((Below.refl _ _).alloc (Nat.le_refl _) _)
set_option maxRecDepth 100000 in
set_option maxHeartbeats 12800000 in
theorem enc_calls (w:World) {B:Nat} {m:Md} {p:Pl} (h:Man w B m p) (hB:B≤w.heap.size) (hs:Short m.E) (hm:Sh w) :
  Calls Tryz.prog 30 #[mdV m p] w (RetEnc w m):=by
 have HRt:=Jh (right_calls (w.alloc (.cells #[.int .i64 m.gen,.int .i64 m.cut,.int .i64 m.fence,.slice p.AE m.E.length p.cE,.slice p.AM m.M.length p.cM,.slice p.AO m.O.length p.cO] 53)) (h.below ((Below.refl B w).alloc hB _)) (Nat.le_trans hB (by simp)) hs (hm.below ((Below.refl w.heap.size w).alloc (Nat.le_refl _) _) hm.lt))
 have kc:=fun (W:World)=>Joins.run_convert_bytes_const_at (P:=Tryz.prog) W 33 5 #[.int .u8 77,.int .u8 65,.int .u8 78,.int .u8 73,.int .u8 1] 5 5 W.heap.size rfl Tryz.underlying33 Tryz.underlying5
 have HR:=Jh fun W (hW:Below w.heap.size w W)=>h.below (hW.mono hB)
 have hok:=h.ok
 have hlE:=h.le
 have HLM:=Jh h.lm
 have HLO:=Jh h.lo
 have hb1:=(Below.refl w.heap.size w).alloc (Nat.le_refl _) (.cells #[.int .i64 m.gen,.int .i64 m.cut,.int .i64 m.fence,.slice p.AE m.E.length p.cE,.slice p.AM m.M.length p.cM,.slice p.AO m.O.length p.cO] 53)
 have HBk:=Jh (Blk.new w 53 #[.int .i64 m.gen,.int .i64 m.cut,.int .i64 m.fence,.slice p.AE m.E.length p.cE,.slice p.AM m.M.length p.cM,.slice p.AO m.O.length p.cO])
 clear h hs hm
 obtain ⟨AE,cE,AM,cM,AO,cO⟩:=p
 dsimp only at *
 cases hr:qar m
 ·rw [hr] at HRt
  go_enter Tryz.func30,Tryz.ntmps30
  go_wp2_with fail
  refine HRt.out.mono ?_
  rintro e w2 ⟨rfl,hb2⟩
  have hbl:=hb1.trans (hb2.mono (by simp))
  have HF:Hid (RetEnc w m (.returned (.tuple #[.slice none 0 0,.int .i64 4])) w2):=Jh ⟨none,0,by simp [encD,encEr,hr],by simp only [encD,hr];exact World.ownsRow_nil _ _ _ _,hbl⟩
  clear hb2 hbl kc hr HRt HBk hok
  go_wp2
  go_ret2
  exact HF.out
 have HIn:=Jh (right_in hr hok)
 have HD:Hid (encD m=encB m∧encEr m=0):=Jh ⟨by unfold encD;rw [if_pos hr],by unfold encEr;rw [if_pos hr]⟩
 rw [hr] at HRt
 clear hr hok
 go_enter Tryz.func30,Tryz.ntmps30
 go_wp2_with fail
 refine HRt.out.mono ?_
 rintro e w2 ⟨rfl,hb2⟩
 have hbw2:Below w.heap.size w w2:=hb1.trans (hb2.mono (by simp))
 have HBk2:=Jh (HBk.out.below hb2 (by simp))
 have hsz2:w.heap.size<w2.heap.size:=by have:=hb2.size;simp at this;omega
 have HBx0:=Jh (head_bx w2 (base:=w.heap.size) (by omega) (putF (w2.heap.size+1)))
 have HC:Hid (∀ W,KU (some (w2.heap.size+1)) (((w2.alloc (.cells #[.int .u8 77,.int .u8 65,.int .u8 78,.int .u8 73,.int .u8 1] 5 (5,6))).alloc (.cells #[.slice (some ⟨w2.heap.size,0,none⟩) 5 5] 33)).alloc (.cells #[putF (w2.heap.size+1)] 128)) W→(W.cell? ⟨w.heap.size,0,none⟩=some (.int .i64 m.gen)∧W.cell? ⟨w.heap.size,1,none⟩=some (.int .i64 m.cut)∧W.cell? ⟨w.heap.size,2,none⟩=some (.int .i64 m.fence)∧W.cell? ⟨w.heap.size,3,none⟩=some (.slice AE m.E.length cE)∧W.cell? ⟨w.heap.size,4,none⟩=some (.slice AM m.M.length cM)∧W.cell? ⟨w.heap.size,5,none⟩=some (.slice AO m.O.length cO))∧Blk W (w2.heap.size+1+1) 128 #[putF (w2.heap.size+1)]):=Jh fun W hW=>by
  have h1:=hW.blk (((HBk2.out.alloc _).alloc _).alloc _) (by decide) (by intro e;injection e with e;omega)
  have h2:=Blk.new ((w2.alloc (.cells #[.int .u8 77,.int .u8 65,.int .u8 78,.int .u8 73,.int .u8 1] 5 (5,6))).alloc (.cells #[.slice (some ⟨w2.heap.size,0,none⟩) 5 5] 33)) 128 #[putF (w2.heap.size+1)]
  simp only [World.size_alloc] at h2
  have h3:=hW.blk h2 (by decide) (by intro e;injection e with e;omega)
  exact ⟨⟨h1.cell 0,h1.cell 1,h1.cell 2,h1.cell 3,h1.cell 4,h1.cell 5⟩,h3⟩
 have hbw3:Below w.heap.size w (((w2.alloc (.cells #[.int .u8 77,.int .u8 65,.int .u8 78,.int .u8 73,.int .u8 1] 5 (5,6))).alloc (.cells #[.slice (some ⟨w2.heap.size,0,none⟩) 5 5] 33)).alloc (.cells #[putF (w2.heap.size+1)] 128)):=((hbw2.alloc (by omega) _).alloc (by simp;omega) _).alloc (by simp;omega) _
 have kc2:=kc w2
 have hst:=store_new (P:=Tryz.prog) ((w2.alloc (.cells #[.int .u8 77,.int .u8 65,.int .u8 78,.int .u8 73,.int .u8 1] 5 (5,6))).alloc (.cells #[.slice (some ⟨w2.heap.size,0,none⟩) 5 5] 33)) (v:=putF (w2.heap.size+1)) (z:=.nilFunc) rfl (t:=128) (n:=w2.heap.size+1+1) (by simp)
 obtain ⟨⟨y0,y1,y2,y3,y4,y5⟩,hp0⟩:=HC.out _ (KU.refl _ _)
 have hy:w2.cell? ⟨w.heap.size,0,none⟩=some (.int .i64 m.gen)∧w2.cell? ⟨w.heap.size,1,none⟩=some (.int .i64 m.cut)∧w2.cell? ⟨w.heap.size,2,none⟩=some (.int .i64 m.fence)∧w2.cell? ⟨w.heap.size,3,none⟩=some (.slice AE m.E.length cE)∧w2.cell? ⟨w.heap.size,4,none⟩=some (.slice AM m.M.length cM)∧w2.cell? ⟨w.heap.size,5,none⟩=some (.slice AO m.O.length cO):=⟨HBk2.out.cell 0,HBk2.out.cell 1,HBk2.out.cell 2,HBk2.out.cell 3,HBk2.out.cell 4,HBk2.out.cell 5⟩
 obtain ⟨z0,z1,z2,z3,z4,z5⟩:=hy
 clear kc HRt hb1 HBk hb2 hp0
 go_wp2_with fail
 clear kc2 hst z0 z1 z2 z3 z4 z5 y0 y1 y2 y3 y4 y5
 have HB0:=Jh hbw3
 have hsz3:(((w2.alloc (.cells #[.int .u8 77,.int .u8 65,.int .u8 78,.int .u8 73,.int .u8 1] 5 (5,6))).alloc (.cells #[.slice (some ⟨w2.heap.size,0,none⟩) 5 5] 33)).alloc (.cells #[putF (w2.heap.size+1)] 128)).heap.size=w2.heap.size+1+1+1:=by simp
 have hbd:=(Below.refl (w2.heap.size+1+1+1) (((w2.alloc (.cells #[.int .u8 77,.int .u8 65,.int .u8 78,.int .u8 73,.int .u8 1] 5 (5,6))).alloc (.cells #[.slice (some ⟨w2.heap.size,0,none⟩) 5 5] 33)).alloc (.cells #[putF (w2.heap.size+1)] 128))).alloc (Nat.le_of_eq hsz3.symm) (.cells #[.int .i64 m.gen,.int .i64 m.cut,.int .i64 m.fence,.int .i64 (m.E.length:Int)] 3)
 generalize (((w2.alloc (.cells #[.int .u8 77,.int .u8 65,.int .u8 78,.int .u8 73,.int .u8 1] 5 (5,6))).alloc (.cells #[.slice (some ⟨w2.heap.size,0,none⟩) 5 5] 33)).alloc (.cells #[putF (w2.heap.size+1)] 128))=w3 at *
 rw [← hsz3] at hbd ⊢
 have hgbw:w.heap.size≤w2.heap.size+1:=by omega
 generalize hgb:w2.heap.size+1=gb at *
 refine (qbv _ (base:=w.heap.size) (l:=head5) (L:=[m.gen,m.cut,m.fence,(m.E.length:Int)]) (HBx0.out.below hbd) hgbw (qbn w3 rfl) HIn.out.f4 (by show 5+10*4≤_;omega) (by have:=hbd.size;omega)).mono ?_
 rintro e W2 ⟨rfl,hbx2,hbel2,hku2⟩
 rw [← preE_0] at hbx2
 have Hst:Hid (Bx W2 gb w.heap.size (preE m 0))∧Hid (Below w.heap.size w W2)∧Hid (KU (some gb) w3 W2):=⟨Jh hbx2,Jh ((HB0.out.trans (hbd.mono (by omega))).trans hbel2),Jh ((KU.below hbd).trans hku2)⟩
 clear hbx2 hbel2 hku2 hbd HB0 HBx0
 obtain ⟨⟨y0,y1,y2,y3,y4,y5⟩,-⟩:=HC.out _ Hst.2.2.out
 go_wp2
 clear y0 y1 y2 y3 y4 y5
 go_loopw [35] (fun i wr=>∃ j:Nat,j≤m.E.length∧i=.int .i64 (j:Int)∧Hid (Bx wr gb w.heap.size (preE m j))∧Hid (Below w.heap.size w wr)∧Hid (KU (some gb) w3 wr)) (fun i _=>m.E.length-(intOf i).toNat)
 case atStart=>exact ⟨0,Nat.zero_le _,rfl,Hst.1,Hst.2.1,Hst.2.2⟩
 case round =>
  clear Hst
  obtain ⟨j,hj,rfl,HX,HB,HK⟩:=hrel
  by_cases hlt:j<m.E.length
  ·have hr:=(HR.out wr HB.out).re
   obtain ⟨b,off,rfl,hbB⟩:=qai hr (by omega)
   obtain ⟨p0,p1,p2,p3,p4,p5,p6,p7,p8⟩:wr.cell? ⟨b,off+j*9,none⟩=some (.string (gt m.E j).key)∧wr.cell? ⟨b,off+j*9+1,none⟩=some (.int .i64 (gt m.E j).window)∧wr.cell? ⟨b,off+j*9+2,none⟩=some (.string (gt m.E j).part)∧wr.cell? ⟨b,off+j*9+3,none⟩=some (.int .i64 (gt m.E j).first)∧wr.cell? ⟨b,off+j*9+4,none⟩=some (.int .i64 (gt m.E j).last)∧wr.cell? ⟨b,off+j*9+5,none⟩=some (.int .i64 (gt m.E j).rows)∧wr.cell? ⟨b,off+j*9+6,none⟩=some (.int .i64 (gt m.E j).size)∧wr.cell? ⟨b,off+j*9+7,none⟩=some (.int .u32 (gt m.E j).sum)∧wr.cell? ⟨b,off+j*9+8,none⟩=some (.int .i64 (gt m.E j).born):=⟨qab qac hr hlt (j:=0) rfl,qab qac hr hlt (j:=1) rfl,qab qac hr hlt (j:=2) rfl,qab qac hr hlt (j:=3) rfl,qab qac hr hlt (j:=4) rfl,qab qac hr hlt (j:=5) rfl,qab qac hr hlt (j:=6) rfl,qab qac hr hlt (j:=7) rfl,qab qac hr hlt (j:=8) rfl⟩
   have HXn:=Jh (HIn.out.E _ (qax hlt))
   have HS:Hid (preE m (j+1)=preE m j++encE (gt m.E j)):=Jh (preE_s hlt)
   have HL:=Jh (qd7 HIn.out j)
   have hszr:w.heap.size≤wr.heap.size:=HB.out.size
   have hgb3:some wr.heap.size≠some gb:=by
    obtain ⟨A,c,hk,_⟩:=HX.out
    have:=hk.lt
    intro e;injection e with e;omega
   have HBk:=Jh (Blk.new wr 85 #[.string (gt m.E j).key,.int .i64 (gt m.E j).window,.string (gt m.E j).part,.int .i64 (gt m.E j).first,.int .i64 (gt m.E j).last,.int .i64 (gt m.E j).rows,.int .i64 (gt m.E j).size,.int .u32 (gt m.E j).sum,.int .i64 (gt m.E j).born])
   have hbW:=(Below.refl wr.heap.size wr).alloc (Nat.le_refl _) (.cells #[.string (gt m.E j).key,.int .i64 (gt m.E j).window,.string (gt m.E j).part,.int .i64 (gt m.E j).first,.int .i64 (gt m.E j).last,.int .i64 (gt m.E j).rows,.int .i64 (gt m.E j).size,.int .u32 (gt m.E j).sum,.int .i64 (gt m.E j).born] 85)
   have HX0:=Jh (HX.out.below hbW)
   have HB0:=Jh (HB.out.trans (hbW.mono hszr))
   have HK1:Hid (∀ W,KU (some gb) (wr.alloc (.cells #[.string (gt m.E j).key,.int .i64 (gt m.E j).window,.string (gt m.E j).part,.int .i64 (gt m.E j).first,.int .i64 (gt m.E j).last,.int .i64 (gt m.E j).rows,.int .i64 (gt m.E j).size,.int .u32 (gt m.E j).sum,.int .i64 (gt m.E j).born] 85)) W→KU (some gb) w3 W):=Jh fun W hW=>(HK.out.trans (KU.below hbW)).trans hW
   have HE:Hid (∀ W,KU (some gb) (wr.alloc (.cells #[.string (gt m.E j).key,.int .i64 (gt m.E j).window,.string (gt m.E j).part,.int .i64 (gt m.E j).first,.int .i64 (gt m.E j).last,.int .i64 (gt m.E j).rows,.int .i64 (gt m.E j).size,.int .u32 (gt m.E j).sum,.int .i64 (gt m.E j).born] 85)) W→W.cell? ⟨wr.heap.size,0,none⟩=some (.string (gt m.E j).key)∧W.cell? ⟨wr.heap.size,1,none⟩=some (.int .i64 (gt m.E j).window)∧W.cell? ⟨wr.heap.size,2,none⟩=some (.string (gt m.E j).part)∧W.cell? ⟨wr.heap.size,3,none⟩=some (.int .i64 (gt m.E j).first)∧W.cell? ⟨wr.heap.size,4,none⟩=some (.int .i64 (gt m.E j).last)∧W.cell? ⟨wr.heap.size,5,none⟩=some (.int .i64 (gt m.E j).rows)∧W.cell? ⟨wr.heap.size,6,none⟩=some (.int .i64 (gt m.E j).size)∧W.cell? ⟨wr.heap.size,7,none⟩=some (.int .u32 (gt m.E j).sum)∧W.cell? ⟨wr.heap.size,8,none⟩=some (.int .i64 (gt m.E j).born)):=Jh fun W hW=>by
    have h1:=hW.blk HBk.out (by decide) hgb3
    exact ⟨h1.cell 0,h1.cell 1,h1.cell 2,h1.cell 3,h1.cell 4,h1.cell 5,h1.cell 6,h1.cell 7,h1.cell 8⟩
   have hsW0:w.heap.size≤(wr.alloc (.cells #[.string (gt m.E j).key,.int .i64 (gt m.E j).window,.string (gt m.E j).part,.int .i64 (gt m.E j).first,.int .i64 (gt m.E j).last,.int .i64 (gt m.E j).rows,.int .i64 (gt m.E j).size,.int .u32 (gt m.E j).sum,.int .i64 (gt m.E j).born] 85)).heap.size:=by simp;omega
   clear hr hbB HX HB HK hbW HBk
   generalize gt m.E j=x at *
   generalize preE m j=pre at *
   go_wp2_with fail
   clear p0 p1 p2 p3 p4 p5 p6 p7 p8
   generalize wr.alloc (.cells #[.string x.key,.int .i64 x.window,.string x.part,.int .i64 x.first,.int .i64 x.last,.int .i64 x.rows,.int .i64 x.size,.int .u32 x.sum,.int .i64 x.born] 85)=wb at *
   have HK0:=Jh (KU.refl (some gb) wb)
   have hk1:=HXn.out.key
   have hk2:=HXn.out.part
   refine (text_calls wb (base:=w.heap.size) (s:=x.key) HX0.out (HC.out _ (HK1.out _ HK0.out)).2 (by omega) (by have:=HL.out;have:=hk1;omega) (by omega)).mono ?_
   rintro e wc ⟨rfl,hbx2,hbel2,hku2⟩
   have HBa:=Jh (HB0.out.trans hbel2)
   have HKa:=Jh (HK0.out.trans hku2)
   have HXa:=Jh hbx2
   have hsa:w.heap.size≤wc.heap.size:=HBa.out.size
   have HLa:=Jh (Nat.le_trans (qe8 (s:=x.key) (qds (L:=[(x.key.size:Int)]) HXn.out.f1 HL.out)) (Nat.add_le_add_left hk1 _))
   clear hbx2 hbel2 hku2 HX0 HB0 HK0 HL
   simp only [List.length_cons,List.length_nil] at HLa
   obtain ⟨q0,q1,q2,q3,q4,q5,q6,q7,q8⟩:=HE.out _ HKa.out
   have hcp:wc.cell? ⟨gb+1,0,none⟩=some (.func (.func 59) #[] #[.pointer (some ⟨gb,0,none⟩)]):=(HC.out _ (HK1.out _ HKa.out)).2.cell 0
   go_wp2_with fail
   clear q0 q1 q2 q3 q4 q5 q6 q7 q8 hcp
   have hbd:=(Below.refl wc.heap.size wc).alloc (Nat.le_refl _) (.cells #[.int .i64 x.window] 3)
   refine (qbv _ (base:=w.heap.size) (L:=[x.window]) (HXa.out.below hbd) (by omega) (qbn wc rfl) (HXn.out.f2a) (by have:=HLa.out;simp only [List.length_cons,List.length_nil];omega) (by simp;omega)).mono ?_
   rintro e wd ⟨rfl,hbx2,hbel2,hku2⟩
   have HBb:=Jh ((HBa.out.trans (hbd.mono (by omega))).trans hbel2)
   have HKb:=Jh (HKa.out.trans ((KU.below hbd).trans hku2))
   have HXb:=Jh hbx2
   have hsb:w.heap.size≤wd.heap.size:=HBb.out.size
   have HLb:=Jh (qds HXn.out.f2a HLa.out)
   clear hbd hbx2 hbel2 hku2 HXa HBa HKa HLa
   simp only [List.length_cons,List.length_nil] at HLb
   obtain ⟨q0,q1,q2,q3,q4,q5,q6,q7,q8⟩:=HE.out _ HKb.out
   have hcp:wd.cell? ⟨gb+1,0,none⟩=some (.func (.func 59) #[] #[.pointer (some ⟨gb,0,none⟩)]):=(HC.out _ (HK1.out _ HKb.out)).2.cell 0
   go_wp2_with fail
   clear q0 q1 q2 q3 q4 q5 q6 q7 q8 hcp
   refine (text_calls wd (base:=w.heap.size) (s:=x.part) HXb.out (HC.out _ (HK1.out _ HKb.out)).2 (by omega) (by have:=HLb.out;have:=hk2;omega) (by omega)).mono ?_
   rintro e we ⟨rfl,hbx2,hbel2,hku2⟩
   have HBc:=Jh (HBb.out.trans hbel2)
   have HKc:=Jh (HKb.out.trans hku2)
   have HXc:=Jh hbx2
   have hsc:w.heap.size≤we.heap.size:=HBc.out.size
   have HLc:=Jh (Nat.le_trans (qe8 (s:=x.part) (qds (L:=[(x.part.size:Int)]) HXn.out.f2b HLb.out)) (Nat.add_le_add_left hk2 _))
   clear hbx2 hbel2 hku2 HXb HBb HKb HLb
   simp only [List.length_cons,List.length_nil] at HLc
   have hsum:IntKind.i64.wrap x.sum=x.sum:=wrap_i64 HXn.out.sum.1 HXn.out.sum.2
   obtain ⟨q0,q1,q2,q3,q4,q5,q6,q7,q8⟩:=HE.out _ HKc.out
   have hcp:we.cell? ⟨gb+1,0,none⟩=some (.func (.func 59) #[] #[.pointer (some ⟨gb,0,none⟩)]):=(HC.out _ (HK1.out _ HKc.out)).2.cell 0
   go_wp2_with fail
   clear q0 q1 q2 q3 q4 q5 q6 q7 q8 hcp
   have hbd:=(Below.refl we.heap.size we).alloc (Nat.le_refl _) (.cells #[.int .i64 x.first,.int .i64 x.last,.int .i64 x.rows,.int .i64 x.size,.int .i64 x.sum,.int .i64 x.born] 3)
   refine (qbv _ (base:=w.heap.size) (L:=[x.first,x.last,x.rows,x.size,x.sum,x.born]) (HXc.out.below hbd) (by omega) (qbn we rfl) (HXn.out.f6) (by have:=HLc.out;simp only [List.length_cons,List.length_nil];omega) (by simp;omega)).mono ?_
   rintro e wf ⟨rfl,hbx2,hbel2,hku2⟩
   have HBd:=Jh ((HBc.out.trans (hbd.mono (by omega))).trans hbel2)
   have HKd:=Jh (HKc.out.trans ((KU.below hbd).trans hku2))
   have HXd:=Jh hbx2
   have hsd:w.heap.size≤wf.heap.size:=HBd.out.size
   have HLd:=Jh (qds HXn.out.f6 HLc.out)
   clear hbd hbx2 hbel2 hku2 HXc HBc HKc HLc
   simp only [List.length_cons,List.length_nil] at HLd
   have HXe:Hid (Bx wf gb w.heap.size (preE m (j+1))):=Jh (by rw [HS.out,← ent_bytes2];exact HXd.out)
   have HKe:=Jh (HK1.out _ HKd.out)
   clear HXd HKd HS HK1 HE HXn hk1 hk2 hsum HLd hsa hsb hsc hsd hsW0 hgb3
   go_wp2
   go_roundw
   case rel=>exact ⟨j+1,by omega,by go_num,HXe,HBd,HKe⟩
   case measure=>simp [intOf];omega
  obtain rfl:j=m.E.length:=by omega
  have HL:=Jh (qd7 HIn.out m.E.length)
  have hszr:w.heap.size≤wr.heap.size:=HB.out.size
  have hlen:m.M.length≤17592186044416:=HLM.out
  obtain ⟨⟨y0,y1,y2,y3,y4,y5⟩,hcp⟩:=HC.out _ HK.out
  have hcp:wr.cell? ⟨gb+1,0,none⟩=some (.func (.func 59) #[] #[.pointer (some ⟨gb,0,none⟩)]):=hcp.cell 0
  go_wp2_with fail
  clear y0 y1 y2 y3 y4 y5 hcp
  have hbd:=(Below.refl wr.heap.size wr).alloc (Nat.le_refl _) (.cells #[.int .i64 (m.M.length:Int)] 3)
  refine (qbv _ (base:=w.heap.size) (L:=[(m.M.length:Int)]) (HX.out.below hbd) hgbw (qbn wr rfl) HIn.out.fm (by have:=HL.out;simp only [List.length_cons,List.length_nil];omega) (by simp;omega)).mono ?_
  rintro e W2 ⟨rfl,hbx2,hbel2,hku2⟩
  rw [← preM_0] at hbx2
  have Hst:Hid (Bx W2 gb w.heap.size (preM m 0))∧Hid (Below w.heap.size w W2)∧Hid (KU (some gb) w3 W2):=⟨Jh hbx2,Jh ((HB.out.trans (hbd.mono hszr)).trans hbel2),Jh (HK.out.trans ((KU.below hbd).trans hku2))⟩
  clear hbx2 hbel2 hku2 hbd HX HB HK HL hszr
  obtain ⟨⟨y0,y1,y2,y3,y4,y5⟩,-⟩:=HC.out _ Hst.2.2.out
  go_wp2
  clear y0 y1 y2 y3 y4 y5
  go_loopw [78] (fun i wr=>∃ j:Nat,j≤m.M.length∧i=.int .i64 (j:Int)∧Hid (Bx wr gb w.heap.size (preM m j))∧Hid (Below w.heap.size w wr)∧Hid (KU (some gb) w3 wr)) (fun i _=>m.M.length-(intOf i).toNat)
  case atStart=>exact ⟨0,Nat.zero_le _,rfl,Hst.1,Hst.2.1,Hst.2.2⟩
  case round =>
   clear Hst
   obtain ⟨j,hj,rfl,HX,HB,HK⟩:=hrel
   by_cases hlt:j<m.M.length
   ·have hr:=(HR.out wr HB.out).rm
    obtain ⟨b,off,rfl,hbB⟩:=qai hr (by omega)
    obtain ⟨p0,p1⟩:wr.cell? ⟨b,off+j*2,none⟩=some (.int .i64 (gt m.M j).maker)∧wr.cell? ⟨b,off+j*2+1,none⟩=some (.int .i64 (gt m.M j).seq):=⟨qab qat hr hlt (j:=0) rfl,qab qat hr hlt (j:=1) rfl⟩
    have HF:=Jh (HIn.out.fK (qax hlt))
    have HS:Hid (preM m (j+1)=_):=Jh (preM_s hlt)
    have HL:=Jh (qd8 HIn.out j)
    have hszr:w.heap.size≤wr.heap.size:=HB.out.size
    have hcp:wr.cell? ⟨gb+1,0,none⟩=some (.func (.func 59) #[] #[.pointer (some ⟨gb,0,none⟩)]):=(HC.out _ HK.out).2.cell 0
    have hgl:gb+1<wr.heap.size:=(HC.out _ HK.out).2.lt
    generalize gt m.M j=x at *
    go_wp2_with fail
    have hbd:=((Below.refl wr.heap.size wr).alloc (Nat.le_refl _) (.cells #[.int .i64 x.maker,.int .i64 x.seq] 90)).alloc (show wr.heap.size≤(wr.alloc (.cells #[.int .i64 x.maker,.int .i64 x.seq] 90)).heap.size by simp) (.cells #[.int .i64 x.maker,.int .i64 x.seq] 3)
    refine (qbv _ (base:=w.heap.size) (L:=[x.maker,x.seq]) (HX.out.below hbd) hgbw (qa5 (wr.alloc (.cells #[.int .i64 x.maker,.int .i64 x.seq] 90)) (by simp) rfl) HF.out (by have:=HL.out;simp only [List.length_cons,List.length_nil];omega) (by simp;omega)).mono ?_
    rintro e W2 ⟨rfl,hbx2,hbel2,hku2⟩
    rw [← HS.out] at hbx2
    have HX2:=Jh hbx2
    have HB2:=Jh ((HB.out.trans (hbd.mono hszr)).trans hbel2)
    have HK2:=Jh (HK.out.trans ((KU.below hbd).trans hku2))
    clear hbx2 hbel2 hku2 hbd HX HB HK HL HF HS hcp hgl
    go_wp2
    go_roundw
    case rel=>exact ⟨j+1,by omega,by go_num,HX2,HB2,HK2⟩
    case measure=>simp [intOf];omega
   obtain rfl:j=m.M.length:=by omega
   have HL:=Jh (qd8 HIn.out m.M.length)
   have hszr:w.heap.size≤wr.heap.size:=HB.out.size
   have hlen:m.O.length≤17592186044416:=HLO.out
   obtain ⟨⟨y0,y1,y2,y3,y4,y5⟩,hcp⟩:=HC.out _ HK.out
   have hcp:wr.cell? ⟨gb+1,0,none⟩=some (.func (.func 59) #[] #[.pointer (some ⟨gb,0,none⟩)]):=hcp.cell 0
   go_wp2_with fail
   clear y0 y1 y2 y3 y4 y5 hcp
   have hbd:=(Below.refl wr.heap.size wr).alloc (Nat.le_refl _) (.cells #[.int .i64 (m.O.length:Int)] 3)
   refine (qbv _ (base:=w.heap.size) (L:=[(m.O.length:Int)]) (HX.out.below hbd) hgbw (qbn wr rfl) HIn.out.fo (by have:=HL.out;simp only [List.length_cons,List.length_nil];omega) (by simp;omega)).mono ?_
   rintro e W2 ⟨rfl,hbx2,hbel2,hku2⟩
   rw [← preO_0] at hbx2
   have Hst:Hid (Bx W2 gb w.heap.size (preO m 0))∧Hid (Below w.heap.size w W2)∧Hid (KU (some gb) w3 W2):=⟨Jh hbx2,Jh ((HB.out.trans (hbd.mono hszr)).trans hbel2),Jh (HK.out.trans ((KU.below hbd).trans hku2))⟩
   clear hbx2 hbel2 hku2 hbd HX HB HK HL hszr
   obtain ⟨⟨y0,y1,y2,y3,y4,y5⟩,-⟩:=HC.out _ Hst.2.2.out
   go_wp2
   clear y0 y1 y2 y3 y4 y5
   go_loopw [99] (fun i wr=>∃ j:Nat,j≤m.O.length∧i=.int .i64 (j:Int)∧Hid (Bx wr gb w.heap.size (preO m j))∧Hid (Below w.heap.size w wr)∧Hid (KU (some gb) w3 wr)) (fun i _=>m.O.length-(intOf i).toNat)
   case atStart=>exact ⟨0,Nat.zero_le _,rfl,Hst.1,Hst.2.1,Hst.2.2⟩
   case round =>
    clear Hst
    obtain ⟨j,hj,rfl,HX,HB,HK⟩:=hrel
    by_cases hlt:j<m.O.length
    ·have hr:=(HR.out wr HB.out).ro
     obtain ⟨b,off,rfl,hbB⟩:=qai hr (by omega)
     obtain ⟨p0,p1,p2⟩:wr.cell? ⟨b,off+j*3,none⟩=some (.int .i64 (gt m.O j).agent)∧wr.cell? ⟨b,off+j*3+1,none⟩=some (.int .i64 (gt m.O j).life)∧wr.cell? ⟨b,off+j*3+2,none⟩=some (.int .i64 (gt m.O j).count):=⟨qab qao hr hlt (j:=0) rfl,qab qao hr hlt (j:=1) rfl,qab qao hr hlt (j:=2) rfl⟩
     have HF:=Jh (HIn.out.fO (qax hlt))
     have HS:Hid (preO m (j+1)=_):=Jh (preO_s hlt)
     have HL:=Jh (qe7 HIn.out j)
     have hszr:w.heap.size≤wr.heap.size:=HB.out.size
     have hcp:wr.cell? ⟨gb+1,0,none⟩=some (.func (.func 59) #[] #[.pointer (some ⟨gb,0,none⟩)]):=(HC.out _ HK.out).2.cell 0
     have hgl:gb+1<wr.heap.size:=(HC.out _ HK.out).2.lt
     generalize gt m.O j=x at *
     go_wp2_with fail
     have hbd:=((Below.refl wr.heap.size wr).alloc (Nat.le_refl _) (.cells #[.int .i64 x.agent,.int .i64 x.life,.int .i64 x.count] 26)).alloc (show wr.heap.size≤(wr.alloc (.cells #[.int .i64 x.agent,.int .i64 x.life,.int .i64 x.count] 26)).heap.size by simp) (.cells #[.int .i64 x.agent,.int .i64 x.life,.int .i64 x.count] 3)
     refine (qbv _ (base:=w.heap.size) (L:=[x.agent,x.life,x.count]) (HX.out.below hbd) hgbw (qa5 (wr.alloc (.cells #[.int .i64 x.agent,.int .i64 x.life,.int .i64 x.count] 26)) (by simp) rfl) HF.out (by have:=HL.out;simp only [List.length_cons,List.length_nil];omega) (by simp;omega)).mono ?_
     rintro e W2 ⟨rfl,hbx2,hbel2,hku2⟩
     rw [← HS.out] at hbx2
     have HX2:=Jh hbx2
     have HB2:=Jh ((HB.out.trans (hbd.mono hszr)).trans hbel2)
     have HK2:=Jh (HK.out.trans ((KU.below hbd).trans hku2))
     clear hbx2 hbel2 hku2 hbd HX HB HK HL HF HS hcp hgl
     go_wp2
     go_roundw
     case rel=>exact ⟨j+1,by omega,by go_num,HX2,HB2,HK2⟩
     case measure=>simp [intOf];omega
    obtain rfl:j=m.O.length:=by omega
    have hszr:w.heap.size≤wr.heap.size:=HB.out.size
    have HL:=Jh (qe7 HIn.out m.O.length)
    obtain ⟨A,c,hbk,hob⟩:=HX.out
    have hc0:wr.cell? ⟨gb,0,none⟩=some (.slice A (preO m m.O.length).length c):=hbk.cell 0
    have hby:=hob.bytes
    have hcap:=hob.cap
    have hbm:Hid (encB m=Cr.cseal (encT m)):=Jh rfl
    rw [preO_all] at HL hby hc0 hcap
    clear hbk hob HX HK HC HIn HR
    generalize encT m=T at *
    go_wp2_with fail
    refine (Cr.seal_calls wr hby (Nat.le_refl _) hcap (by have:=HL.out;omega) (by have:=HL.out;omega)).mono ?_
    rintro e W7 hret
    obtain ⟨A7,c7,rfl,_,_,_,hbel7,hown7⟩:=hret.opened
    have hown8:=qa7 hown7 hszr
    have hbel8:=HB.out.trans (hbel7.mono hszr)
    rw [← hbm.out,← HD.out.1] at hown8
    rw [← hbm.out,← HD.out.1]
    have HF:Hid (∀ v,v=Value.tuple #[.slice A7 (encD m).length c7,.int .i64 0]→RetEnc w m (.returned v) W7):=Jh fun v hv=>⟨A7,c7,by rw [hv,HD.out.2],hown8,hbel8⟩
    clear hown7 hbel7 hret hby hcap hc0 HB HL hbm HD hown8 hbel8
    go_wp2
    go_ret2
    exact HF.out _ (by kernel_rfl)
def set7 (w:World) (g:Nat) (v0 v1 v2 v3 v4 v5 v6:Value):World:=((((((w.setCell ⟨g,0,none⟩ v0).setCell ⟨g,1,none⟩ v1).setCell ⟨g,2,none⟩ v2).setCell ⟨g,3,none⟩ v3).setCell ⟨g,4,none⟩ v4).setCell ⟨g,5,none⟩ v5).setCell ⟨g,6,none⟩ v6
theorem qe9 {w:World} {g:Nat} {t:TypeId} {a0 a1 a2 a3 a4 a5 a6:Value} (h:Blk w g t #[a0,a1,a2,a3,a4,a5,a6]) (v0 v1 v2 v3 v4 v5 v6:Value):Blk (set7 w g v0 v1 v2 v3 v4 v5 v6) g t #[v0,v1,v2,v3,v4,v5,v6]:=by
 have:=((((((h.set_ 0 v0).set_ 1 v1).set_ 2 v2).set_ 3 v3).set_ 4 v4).set_ 5 v5).set_ 6 v6
 simpa [set7] using this
theorem qd9 {a w:World} {k g:Nat} (h:Only k a w) (hg:a.heap.size≤g) (v0 v1 v2 v3 v4 v5 v6:Value):Only k a (set7 w g v0 v1 v2 v3 v4 v5 v6) :=
 ((((((h.setCell (p:=⟨g,0,none⟩) (.inr hg) v0).setCell (p:=⟨g,1,none⟩) (.inr hg) v1).setCell (p:=⟨g,2,none⟩) (.inr hg) v2).setCell (p:=⟨g,3,none⟩) (.inr hg) v3).setCell (p:=⟨g,4,none⟩) (.inr hg) v4).setCell (p:=⟨g,5,none⟩) (.inr hg) v5).setCell (p:=⟨g,6,none⟩) (.inr hg) v6
theorem qcl (w:World) (g:Nat) (v0 v1 v2 v3 v4 v5 v6:Value):Only g w (set7 w g v0 v1 v2 v3 v4 v5 v6) :=
 (((((((Only.refl g w).setCell (p:=⟨g,0,none⟩) (.inl rfl) v0).setCell (p:=⟨g,1,none⟩) (.inl rfl) v1).setCell (p:=⟨g,2,none⟩) (.inl rfl) v2).setCell (p:=⟨g,3,none⟩) (.inl rfl) v3).setCell (p:=⟨g,4,none⟩) (.inl rfl) v4).setCell (p:=⟨g,5,none⟩) (.inl rfl) v5).setCell (p:=⟨g,6,none⟩) (.inl rfl) v6
theorem Sh.only_ {w w':World} {g:Nat} (h:Sh w) (ho:Only g w w') (hg:0<g):Sh w':=h.below (ho.below (B:=1) hg h.lt) (by omega)
section
variable {g:Nat}
set_option maxRecDepth 100000 in
theorem end_calls (w:World) {cs:Array Value} (h:Blk w g 92 cs) (s0 e0:Value) (h0:cs[27]?=some s0) (h1:cs[28]?=some e0) (s e:Int) :
  Calls Tryz.prog 31 #[.pointer (some ⟨g,0,none⟩),.int .i64 s,.int .i64 e] w fun en w'=>en=.returned (.tuple #[])∧w'=(w.setCell ⟨g,27,none⟩ (.int .i64 s)).setCell ⟨g,28,none⟩ (.int .i64 e):=by
 have z0:=h.cell 27
 have z1:=(h.set_ 27 (.int .i64 s)).cell 28
 have f0:=h.frozen 27
 have f1:=(h.set_ 27 (.int .i64 s)).frozen 28
 have z1':=h.cell 28
 rw [h0] at z0
 rw [h1] at z1'
 rw [Array.getElem?_setIfInBounds_ne (by decide),h1] at z1
 clear h h0 h1
 go_enter Tryz.func31,Tryz.ntmps31
 go_wp2
 go_end0
 exact ⟨rfl,rfl⟩
end
abbrev qap:Array Value:=#[.int .i64 0,.string ⟨#[]⟩,.slice none 0 0,.int .i64 0,.int .i64 0,.int .i64 0,.int .i64 0]
abbrev qen:Array Value:=#[.int .i64 3,.string ⟨#[109,97,110,105,102,101,115,116]⟩,.slice none 0 0,.int .i64 0,.int .i64 0,.int .i64 0,.int .i64 0]
abbrev putCall (A:Option Addr) (n c:Nat) (ver:Int):Array Value:=#[.int .i64 2,.string ⟨#[109,97,110,105,102,101,115,116]⟩,.slice A n c,.int .i64 ver,.int .i64 0,.int .i64 0,.int .i64 0]
section
variable {base g:Nat} {s:Cst} {q:Pd} {pr pn:Pl}
set_option maxRecDepth 100000 in
theorem qex (w:World) (h:CmAt w base g s q pr pn) :
  Calls Tryz.prog 12 #[.pointer (some ⟨g,0,none⟩)] w fun e w'=>e=.returned (.tuple #[.int .i64 s.st,.int .i64 s.er])∧Below w.heap.size w w':=by
 have z0:=h.blk.cell 27
 have z1:=h.blk.cell 28
 simp only [Ja,Jb,Jc] at z0 z1
 clear h
 go_enter Tryz.func12,Tryz.ntmps12
 go_wp2_with fail
 go_quiet (fail)
 go_wp2
 go_ret2
 exact ⟨rfl,qaa (Below.refl _ _) _⟩
def EncC (enc:Md→List UInt8) (er:Md→Int):Prop:=∀ (w:World) {B:Nat} {m:Md} {p:Pl},Man w B m p→B≤w.heap.size→Short m.E→Sh w→Calls Tryz.prog 30 #[mdV m p] w fun e w'=>∃ A c,e=.returned (.tuple #[.slice A (enc m).length c,.int .i64 (er m)])∧w'.ownsRow w.heap.size 5 1 (.slice A (enc m).length c) (enc m).length ((enc m).map byteV)∧Below w.heap.size w w'
def nextB (s:Cst) (now:Int):Bool:=decide (s.st=0∧s.asked=false∧¬ now<s.due)
set_option maxRecDepth 100000 in
set_option maxHeartbeats 3200000 in
theorem next_no (w:World) (h:CmAt w base g s q pr pn) (now:Int) (hn:nextB s now=false) :
  Calls Tryz.prog 10 #[.pointer (some ⟨g,0,none⟩),.int .i64 now] w fun e w'=>e=.returned (.tuple #[.agg qap,.bool false])∧Below w.heap.size w w':=by
 have h2:=h.blk.alloc (.cells qap 35)
 have z0:=h2.cell 27
 have z1:=h2.cell 13
 have z2:=h2.cell 11
 simp only [Ja,Jb,Jc] at z0 z1 z2
 have hn:¬ (s.st=0∧s.asked=false∧¬ now<s.due):=of_decide_eq_false hn
 have HNo:=Jh hn
 clear h h2 hn
 generalize s.st=st at *
 generalize s.asked=asked at *
 generalize s.due=due at *
 by_cases hs:st=0
 ·have ds:(st != 0)=false:=nef hs
  cases asked
  ·have dn:decide (now<due)=true:=dct (by
    have h9:=HNo.out
    by_cases hh:now<due
    ·exact hh
    ·exact absurd ⟨hs,rfl,hh⟩ h9)
   go_enter Tryz.func10,Tryz.ntmps10
   go_wp2
   refine bodyPost_ret (qaj rfl _ _ w.heap.size 35 qap _ _ rfl rfl (Blk.new _ _ _) Tryz.underlying35 rfl (by kernel_rfl)) rfl ?_
   exact ⟨rfl,(Below.refl _ _).alloc (Nat.le_refl _) _⟩
  ·go_enter Tryz.func10,Tryz.ntmps10
   go_wp2
   refine bodyPost_ret (qaj rfl _ _ w.heap.size 35 qap _ _ rfl rfl (Blk.new _ _ _) Tryz.underlying35 rfl (by kernel_rfl)) rfl ?_
   exact ⟨rfl,(Below.refl _ _).alloc (Nat.le_refl _) _⟩
 ·have ds:(st != 0)=true:=net hs
  go_enter Tryz.func10,Tryz.ntmps10
  go_wp2
  refine bodyPost_ret (qaj rfl _ _ w.heap.size 35 qap _ _ rfl rfl (Blk.new _ _ _) Tryz.underlying35 rfl (by kernel_rfl)) rfl ?_
  exact ⟨rfl,(Below.refl _ _).alloc (Nat.le_refl _) _⟩
set_option maxRecDepth 100000 in
set_option maxHeartbeats 3200000 in
theorem next_get (w:World) (h:CmAt w base g s q pr pn) (now:Int) (hn:nextB s now=true) (hwr:s.writes=false) :
  Calls Tryz.prog 10 #[.pointer (some ⟨g,0,none⟩),.int .i64 now] w fun e w'=>e=.returned (.tuple #[.agg qen,.bool true])∧CmAt w' base g { s with asked:=true } q pr pn∧Only g w w':=by
 have hn:s.st=0∧s.asked=false∧¬ now<s.due:=of_decide_eq_true hn
 obtain ⟨hs0,ha0,hd0⟩:=hn
 have h2:=h.blk.alloc (.cells qap 35)
 have z0:=h2.cell 27
 have z1:=h2.cell 13
 have z2:=h2.cell 11
 have f1:=h2.frozen 13
 simp only [Ja,Jb,Jc] at z0 z1 z2
 have ds:(s.st != 0)=false:=nef hs0
 have dn:decide (now<s.due)=false:=dcf hd0
 rw [ha0] at z1
 have hne:g≠w.heap.size:=by have:=h.blk.lt;omega
 have hb:=(Blk.new w 35 qap).far (p:=⟨g,13,none⟩) (Ne.symm hne) (.bool true)
 have hb3:=h2.set_ 13 (.bool true)
 simp only [Jd,Je,Jf] at hb3
 have HO:Hid (Only g w ((w.alloc (.cells qap 35)).setCell ⟨g,13,none⟩ (.bool true))):=Jh (((Only.refl g w).alloc _).setCell (.inl rfl) _)
 have HC:Hid (CmAt ((w.alloc (.cells qap 35)).setCell ⟨g,13,none⟩ (.bool true)) base g { s with asked:=true } q pr pn):=Jh (h.put HO.out (s':={ s with asked:=true }) hb3 rfl (h.read_ HO.out) (h.next_ HO.out))
 have HB:=Jh hb
 have HN:=Jh hne
 clear h h2 hb hb3 hne hs0 ha0 hd0
 go_enter Tryz.func10,Tryz.ntmps10
 go_upto_region 4 with fail
 obtain ⟨gc,hgc⟩:∃ gc,gc=w.heap.size:=⟨_,rfl⟩
 have HGc:=Jh hgc
 have HL:Hid (w.heap.size≤gc):=Jh (by omega)
 rw [← hgc] at HB HN ⊢
 clear hgc z0 z1 z2 f1
 generalize (w.alloc (.cells qap 35)).setCell ⟨g,13,none⟩ (.bool true)=w2 at *
 have y14:=HC.out.blk.cell 14
 simp only [Ja,Jb,Jc] at y14
 rw [hwr] at y14
 have hb:=HB.out
 have q0:=hb.cell 0
 have r0:=hb.frozen 0
 have q1:=hb.cell 1
 have r1:=hb.frozen 1
 have q2:=hb.cell 2
 have r2:=hb.frozen 2
 have q3:=hb.cell 3
 have r3:=hb.frozen 3
 have q4:=hb.cell 4
 have r4:=hb.frozen 4
 have q5:=hb.cell 5
 have r5:=hb.frozen 5
 have q6:=hb.cell 6
 have r6:=hb.frozen 6
 simp only [Ja,Jb,Jc] at q0 q1 q2 q3 q4 q5 q6
 clear hb
 go_wp2
 have hs:=qe9 HB.out (.int .i64 3) (.string ⟨#[109,97,110,105,102,101,115,116]⟩) (.slice none 0 0) (.int .i64 0) (.int .i64 0) (.int .i64 0) (.int .i64 0)
 refine bodyPost_ret (qaj rfl _ _ gc 35 qen _ _ rfl rfl hs Tryz.underlying35 rfl (by kernel_rfl)) rfl ?_
 exact ⟨rfl,HC.out.other (qcl _ _ _ _ _ _ _ _ _) HB.out (by decide) (by decide) (by decide) (by decide) (by decide),qd9 HO.out HL.out _ _ _ _ _ _ _⟩
set_option maxRecDepth 100000 in
set_option maxHeartbeats 3200000 in
theorem next_put {enc:Md→List UInt8} {er:Md→Int} (henc:EncC enc er) (hb0:0<base) (w:World) (h:CmAt w base g s q pr pn) (now:Int) (hn:nextB s now=true) (hwr:s.writes=true) (hg:Gd s.next) (hm:Sh w) :
  Calls Tryz.prog 10 #[.pointer (some ⟨g,0,none⟩),.int .i64 now] w fun e w'=>∃ A c,e=.returned (.tuple #[.agg (putCall A (enc s.next).length c s.ver),.bool true])∧w'.ownsRow w.heap.size 5 1 (.slice A (enc s.next).length c) (enc s.next).length ((enc s.next).map byteV)∧CmAt w' base g { s with asked:=true } q pr pn∧Only g w w':=by
 have HM:=Jh hm
 have hn:s.st=0∧s.asked=false∧¬ now<s.due:=of_decide_eq_true hn
 obtain ⟨hs0,ha0,hd0⟩:=hn
 have h2:=h.blk.alloc (.cells qap 35)
 have z0:=h2.cell 27
 have z1:=h2.cell 13
 have z2:=h2.cell 11
 have f1:=h2.frozen 13
 simp only [Ja,Jb,Jc] at z0 z1 z2
 have ds:(s.st != 0)=false:=nef hs0
 have dn:decide (now<s.due)=false:=dcf hd0
 rw [ha0] at z1
 have hne:g≠w.heap.size:=by have:=h.blk.lt;omega
 have hb:=(Blk.new w 35 qap).far (p:=⟨g,13,none⟩) (Ne.symm hne) (.bool true)
 have hb3:=h2.set_ 13 (.bool true)
 simp only [Jd,Je,Jf] at hb3
 have HO:Hid (Only g w ((w.alloc (.cells qap 35)).setCell ⟨g,13,none⟩ (.bool true))):=Jh (((Only.refl g w).alloc _).setCell (.inl rfl) _)
 have HC:Hid (CmAt ((w.alloc (.cells qap 35)).setCell ⟨g,13,none⟩ (.bool true)) base g { s with asked:=true } q pr pn):=Jh (h.put HO.out (s':={ s with asked:=true }) hb3 rfl (h.read_ HO.out) (h.next_ HO.out))
 have HB:=Jh hb
 have HN:=Jh hne
 clear h h2 hb hb3 hne hs0 ha0 hd0
 go_enter Tryz.func10,Tryz.ntmps10
 go_upto_region 4 with fail
 obtain ⟨gc,hgc⟩:∃ gc,gc=w.heap.size:=⟨_,rfl⟩
 have HGc:=Jh hgc
 have HL:Hid (w.heap.size≤gc):=Jh (by omega)
 rw [← hgc] at HB HN ⊢
 clear hgc z0 z1 z2 f1
 generalize (w.alloc (.cells qap 35)).setCell ⟨g,13,none⟩ (.bool true)=w2 at *
 have y14:=HC.out.blk.cell 14
 simp only [Ja,Jb,Jc] at y14
 rw [hwr] at y14
 have HEn:=Jh (henc w2 (HC.out.nx.good hg) (Nat.le_refl _) hg.short (Sh.only_ HM.out HO.out (by have:=HC.out.low;omega)))
 have y21:=HC.out.blk.cell 21
 have y22:=HC.out.blk.cell 22
 have y23:=HC.out.blk.cell 23
 have y24:=HC.out.blk.cell 24
 have y25:=HC.out.blk.cell 25
 have y26:=HC.out.blk.cell 26
 simp only [Ja,Jb,Jc] at y21 y22 y23 y24 y25 y26
 go_wp2_with fail
 refine HEn.out.mono ?_
 rintro e w3 ⟨A3,c3,rfl,ho3,hb3⟩
 have HC3:=Jh (HC.out.below hb3)
 have hb:=HB.out.below hb3 HB.out.lt
 have HB3:=Jh hb
 have HO3:Hid (Only g w w3):=Jh (HO.out.trans (Only.of_below hb3))
 have HW3:=Jh (qa7 (base':=w.heap.size) ho3 HO.out.size)
 have y12:=HC3.out.blk.cell 12
 simp only [Ja,Jb,Jc] at y12
 clear HEn ho3 hb3 y14 y21 y22 y23 y24 y25 y26
 have q0:=hb.cell 0
 have r0:=hb.frozen 0
 have q1:=hb.cell 1
 have r1:=hb.frozen 1
 have q2:=hb.cell 2
 have r2:=hb.frozen 2
 have q3:=hb.cell 3
 have r3:=hb.frozen 3
 have q4:=hb.cell 4
 have r4:=hb.frozen 4
 have q5:=hb.cell 5
 have r5:=hb.frozen 5
 have q6:=hb.cell 6
 have r6:=hb.frozen 6
 simp only [Ja,Jb,Jc] at q0 q1 q2 q3 q4 q5 q6
 clear hb
 go_wp2
 have hs:=qe9 HB3.out (.int .i64 2) (.string ⟨#[109,97,110,105,102,101,115,116]⟩) (.slice A3 (enc s.next).length c3) (.int .i64 s.ver) (.int .i64 0) (.int .i64 0) (.int .i64 0)
 refine bodyPost_ret (qaj rfl _ _ gc 35 (putCall A3 (enc s.next).length c3 s.ver) _ _ rfl rfl hs Tryz.underlying35 rfl (by kernel_rfl)) rfl ?_
 exact ⟨A3,c3,rfl,qa3 HW3.out (qcl _ _ _ _ _ _ _ _ _) HB3.out (by decide),HC3.out.other (qcl _ _ _ _ _ _ _ _ _) HB3.out (by decide) (by decide) (by decide) (by decide) (by decide),qd9 HO3.out HL.out _ _ _ _ _ _ _⟩
end
abbrev dmA (s:Cst) (q:Pd) (pr pn:Pl):Array Value :=
 #[.slice q.AA s.d.add.length q.cA,.slice q.AD s.d.drop.length q.cD,.slice q.AM s.d.marks.length q.cM,.int .i64 s.d.cut,.int .i64 s.d.fence,.int .i64 s.d.by_.agent,.int .i64 s.d.by_.life,.int .i64 s.d.by_.count,.int .i64 s.tries,.int .i64 s.wait,.bool s.writes,.bool s.asked,.int .i64 (s.fails:Int),.int .i64 s.due,.int .i64 s.ver,.int .i64 s.read.gen,.int .i64 s.read.cut,.int .i64 s.read.fence,.slice pr.AE s.read.E.length pr.cE,.slice pr.AM s.read.M.length pr.cM,.slice pr.AO s.read.O.length pr.cO,.int .i64 s.next.gen,.int .i64 s.next.cut,.int .i64 s.next.fence,.slice pn.AE s.next.E.length pn.cE,.slice pn.AM s.next.M.length pn.cM,.slice pn.AO s.next.O.length pn.cO,.int .i64 s.st,.int .i64 s.er]
structure DmAt (w:World) (base g:Nat) (s:Cst) (q:Pd) (pr pn:Pl):Prop where
 low:base≤g
 blk:Blk w g 63 (dmA s q pr pn)
 ed:Edo w base s.d q
 rd:Mow w base s.read pr
 nx:Mow w base s.next pn
section
variable {w w':World} {base g:Nat} {s:Cst} {q:Pd} {pr pn:Pl}
theorem DmAt.below (h:DmAt w base g s q pr pn) (hb:Below w.heap.size w w'):DmAt w' base g s q pr pn:=⟨h.low,h.blk.below hb h.blk.lt,h.ed.below hb,h.rd.below hb,h.nx.below hb⟩
theorem DmAt.put (h:DmAt w base g s q pr pn) (ho:Only g w w') {s':Cst} {pr' pn':Pl} (hb:Blk w' g 63 (dmA s' q pr' pn')) (hd:s'.d=s.d) (hr:Mow w' base s'.read pr') (hn:Mow w' base s'.next pn'):DmAt w' base g s' q pr' pn' :=
 ⟨h.low,hb,by rw [hd];exact h.ed.only ho h.blk (by decide) (by decide) (by decide),hr,hn⟩
theorem DmAt.other (h:DmAt w base g s q pr pn) {k:Nat} {t:TypeId} {cs:Array Value} (ho:Only k w w') (hk:Blk w k t cs) (h0:63≠t) (h1:85≠t) (h2:9≠t) (h3:90≠t) (h4:26≠t):DmAt w' base g s q pr pn :=
 ⟨h.low,ho.blk h.blk (h.blk.ne_ hk h0),h.ed.only ho hk h1 h2 h3,h.rd.only ho hk h1 h3 h4,h.nx.only ho hk h1 h3 h4⟩
theorem DmAt.read_ (h:DmAt w base g s q pr pn) (ho:Only g w w'):Mow w' base s.read pr:=h.rd.only ho h.blk (by decide) (by decide) (by decide)
theorem DmAt.next_ (h:DmAt w base g s q pr pn) (ho:Only g w w'):Mow w' base s.next pn:=h.nx.only ho h.blk (by decide) (by decide) (by decide)
end
section
variable {base g:Nat} {s:Cst} {q:Pd} {pr pn:Pl}
set_option maxRecDepth 100000 in
set_option maxHeartbeats 3200000 in
theorem nextR_no (w:World) (h:DmAt w base g s q pr pn) (now:Int) (hn:nextB s now=false) :
  Calls Tryz.prog 16 #[.pointer (some ⟨g,0,none⟩),.int .i64 now] w fun e w'=>e=.returned (.tuple #[.agg qap,.bool false])∧Below w.heap.size w w':=by
 have h2:=h.blk.alloc (.cells qap 35)
 have z0:=h2.cell 27
 have z1:=h2.cell 11
 have z2:=h2.cell 13
 simp only [Ja,Jb,Jc] at z0 z1 z2
 have hn:¬ (s.st=0∧s.asked=false∧¬ now<s.due):=of_decide_eq_false hn
 have HNo:=Jh hn
 clear h h2 hn
 generalize s.st=st at *
 generalize s.asked=asked at *
 generalize s.due=due at *
 by_cases hs:st=0
 ·have ds:(st != 0)=false:=nef hs
  cases asked
  ·have dn:decide (now<due)=true:=dct (by
    have h9:=HNo.out
    by_cases hh:now<due
    ·exact hh
    ·exact absurd ⟨hs,rfl,hh⟩ h9)
   go_enter Tryz.func16,Tryz.ntmps16
   go_wp2
   refine bodyPost_ret (qaj rfl _ _ w.heap.size 35 qap _ _ rfl rfl (Blk.new _ _ _) Tryz.underlying35 rfl (by kernel_rfl)) rfl ?_
   exact ⟨rfl,(Below.refl _ _).alloc (Nat.le_refl _) _⟩
  ·go_enter Tryz.func16,Tryz.ntmps16
   go_wp2
   refine bodyPost_ret (qaj rfl _ _ w.heap.size 35 qap _ _ rfl rfl (Blk.new _ _ _) Tryz.underlying35 rfl (by kernel_rfl)) rfl ?_
   exact ⟨rfl,(Below.refl _ _).alloc (Nat.le_refl _) _⟩
 ·have ds:(st != 0)=true:=net hs
  go_enter Tryz.func16,Tryz.ntmps16
  go_wp2
  refine bodyPost_ret (qaj rfl _ _ w.heap.size 35 qap _ _ rfl rfl (Blk.new _ _ _) Tryz.underlying35 rfl (by kernel_rfl)) rfl ?_
  exact ⟨rfl,(Below.refl _ _).alloc (Nat.le_refl _) _⟩
set_option maxRecDepth 100000 in
set_option maxHeartbeats 3200000 in
theorem nextR_get (w:World) (h:DmAt w base g s q pr pn) (now:Int) (hn:nextB s now=true) (hwr:s.writes=false) :
  Calls Tryz.prog 16 #[.pointer (some ⟨g,0,none⟩),.int .i64 now] w fun e w'=>e=.returned (.tuple #[.agg qen,.bool true])∧DmAt w' base g { s with asked:=true } q pr pn∧Only g w w':=by
 have hn:s.st=0∧s.asked=false∧¬ now<s.due:=of_decide_eq_true hn
 obtain ⟨hs0,ha0,hd0⟩:=hn
 have h2:=h.blk.alloc (.cells qap 35)
 have z0:=h2.cell 27
 have z1:=h2.cell 11
 have z2:=h2.cell 13
 have f1:=h2.frozen 11
 simp only [Ja,Jb,Jc] at z0 z1 z2
 have ds:(s.st != 0)=false:=nef hs0
 have dn:decide (now<s.due)=false:=dcf hd0
 rw [ha0] at z1
 have hne:g≠w.heap.size:=by have:=h.blk.lt;omega
 have hb:=(Blk.new w 35 qap).far (p:=⟨g,11,none⟩) (Ne.symm hne) (.bool true)
 have hb3:=h2.set_ 11 (.bool true)
 simp only [Jd,Je,Jf] at hb3
 have HO:Hid (Only g w ((w.alloc (.cells qap 35)).setCell ⟨g,11,none⟩ (.bool true))):=Jh (((Only.refl g w).alloc _).setCell (.inl rfl) _)
 have HC:Hid (DmAt ((w.alloc (.cells qap 35)).setCell ⟨g,11,none⟩ (.bool true)) base g { s with asked:=true } q pr pn):=Jh (h.put HO.out (s':={ s with asked:=true }) hb3 rfl (h.read_ HO.out) (h.next_ HO.out))
 have HB:=Jh hb
 have HN:=Jh hne
 clear h h2 hb hb3 hne hs0 ha0 hd0
 go_enter Tryz.func16,Tryz.ntmps16
 go_upto_region 4 with fail
 obtain ⟨gc,hgc⟩:∃ gc,gc=w.heap.size:=⟨_,rfl⟩
 have HGc:=Jh hgc
 have HL:Hid (w.heap.size≤gc):=Jh (by omega)
 rw [← hgc] at HB HN ⊢
 clear hgc z0 z1 z2 f1
 generalize (w.alloc (.cells qap 35)).setCell ⟨g,11,none⟩ (.bool true)=w2 at *
 have y14:=HC.out.blk.cell 10
 simp only [Ja,Jb,Jc] at y14
 rw [hwr] at y14
 have hb:=HB.out
 have q0:=hb.cell 0
 have r0:=hb.frozen 0
 have q1:=hb.cell 1
 have r1:=hb.frozen 1
 have q2:=hb.cell 2
 have r2:=hb.frozen 2
 have q3:=hb.cell 3
 have r3:=hb.frozen 3
 have q4:=hb.cell 4
 have r4:=hb.frozen 4
 have q5:=hb.cell 5
 have r5:=hb.frozen 5
 have q6:=hb.cell 6
 have r6:=hb.frozen 6
 simp only [Ja,Jb,Jc] at q0 q1 q2 q3 q4 q5 q6
 clear hb
 go_wp2
 have hs:=qe9 HB.out (.int .i64 3) (.string ⟨#[109,97,110,105,102,101,115,116]⟩) (.slice none 0 0) (.int .i64 0) (.int .i64 0) (.int .i64 0) (.int .i64 0)
 refine bodyPost_ret (qaj rfl _ _ gc 35 qen _ _ rfl rfl hs Tryz.underlying35 rfl (by kernel_rfl)) rfl ?_
 exact ⟨rfl,HC.out.other (qcl _ _ _ _ _ _ _ _ _) HB.out (by decide) (by decide) (by decide) (by decide) (by decide),qd9 HO.out HL.out _ _ _ _ _ _ _⟩
def EncRC (enc:Md→List UInt8) (ok:Md→Prop):Prop:=∀ (w:World) {B:Nat} {m:Md} {p:Pl},Man w B m p→B≤w.heap.size→ok m→Calls Tryz.prog 19 #[mdV m p] w fun e w'=>∃ A c,e=.returned (.slice A (enc m).length c)∧w'.ownsRow w.heap.size 5 1 (.slice A (enc m).length c) (enc m).length ((enc m).map byteV)∧Below w.heap.size w w'
set_option maxRecDepth 100000 in
set_option maxHeartbeats 3200000 in
theorem nextR_put {enc:Md→List UInt8} {ok:Md→Prop} (henc:EncRC enc ok) (w:World) (h:DmAt w base g s q pr pn) (now:Int) (hn:nextB s now=true) (hwr:s.writes=true) (hg:Gd s.next) (hok:ok s.next) :
  Calls Tryz.prog 16 #[.pointer (some ⟨g,0,none⟩),.int .i64 now] w fun e w'=>∃ A c,e=.returned (.tuple #[.agg (putCall A (enc s.next).length c s.ver),.bool true])∧w'.ownsRow w.heap.size 5 1 (.slice A (enc s.next).length c) (enc s.next).length ((enc s.next).map byteV)∧DmAt w' base g { s with asked:=true } q pr pn∧Only g w w':=by
 have hn:s.st=0∧s.asked=false∧¬ now<s.due:=of_decide_eq_true hn
 obtain ⟨hs0,ha0,hd0⟩:=hn
 have h2:=h.blk.alloc (.cells qap 35)
 have z0:=h2.cell 27
 have z1:=h2.cell 11
 have z2:=h2.cell 13
 have f1:=h2.frozen 11
 simp only [Ja,Jb,Jc] at z0 z1 z2
 have ds:(s.st != 0)=false:=nef hs0
 have dn:decide (now<s.due)=false:=dcf hd0
 rw [ha0] at z1
 have hne:g≠w.heap.size:=by have:=h.blk.lt;omega
 have hb:=(Blk.new w 35 qap).far (p:=⟨g,11,none⟩) (Ne.symm hne) (.bool true)
 have hb3:=h2.set_ 11 (.bool true)
 simp only [Jd,Je,Jf] at hb3
 have HO:Hid (Only g w ((w.alloc (.cells qap 35)).setCell ⟨g,11,none⟩ (.bool true))):=Jh (((Only.refl g w).alloc _).setCell (.inl rfl) _)
 have HC:Hid (DmAt ((w.alloc (.cells qap 35)).setCell ⟨g,11,none⟩ (.bool true)) base g { s with asked:=true } q pr pn):=Jh (h.put HO.out (s':={ s with asked:=true }) hb3 rfl (h.read_ HO.out) (h.next_ HO.out))
 have HB:=Jh hb
 have HN:=Jh hne
 clear h h2 hb hb3 hne hs0 ha0 hd0
 go_enter Tryz.func16,Tryz.ntmps16
 go_upto_region 4 with fail
 obtain ⟨gc,hgc⟩:∃ gc,gc=w.heap.size:=⟨_,rfl⟩
 have HGc:=Jh hgc
 have HL:Hid (w.heap.size≤gc):=Jh (by omega)
 rw [← hgc] at HB HN ⊢
 clear hgc z0 z1 z2 f1
 generalize (w.alloc (.cells qap 35)).setCell ⟨g,11,none⟩ (.bool true)=w2 at *
 have y14:=HC.out.blk.cell 10
 simp only [Ja,Jb,Jc] at y14
 rw [hwr] at y14
 go_upto_region 5 with fail
 clear y14 hwr
 have HW0:Hid (Below w2.heap.size w2 w2.drew):=Jh (qaa (Below.refl _ _) 1)
 have Hc:Hid (∀ W,Below w2.heap.size w2 W→W.cell? ⟨g,14,none⟩=some (.int .i64 s.ver)∧W.cell? ⟨g,21,none⟩=some (.int .i64 s.next.gen)∧W.cell? ⟨g,22,none⟩=some (.int .i64 s.next.cut)∧W.cell? ⟨g,23,none⟩=some (.int .i64 s.next.fence)∧W.cell? ⟨g,24,none⟩=some (.slice pn.AE s.next.E.length pn.cE)∧W.cell? ⟨g,25,none⟩=some (.slice pn.AM s.next.M.length pn.cM)∧W.cell? ⟨g,26,none⟩=some (.slice pn.AO s.next.O.length pn.cO)):=Jh fun W hW=>by
  have h2:=HC.out.blk.below hW HC.out.blk.lt
  exact ⟨h2.cell 14,h2.cell 21,h2.cell 22,h2.cell 23,h2.cell 24,h2.cell 25,h2.cell 26⟩
 have HEn:=Jh fun W (hW:Below w2.heap.size w2 W)=>henc W (((HC.out.below hW).nx).good hg) (Nat.le_refl _) hok
 refine qa4 (fun i=>i == 10||i == 11) (fun w'=>w'.cell? ⟨g,14,none⟩=some (.int .i64 s.ver)∧w'.cell? ⟨g,21,none⟩=some (.int .i64 s.next.gen)∧w'.cell? ⟨g,22,none⟩=some (.int .i64 s.next.cut)∧w'.cell? ⟨g,23,none⟩=some (.int .i64 s.next.fence)∧w'.cell? ⟨g,24,none⟩=some (.slice pn.AE s.next.E.length pn.cE)∧w'.cell? ⟨g,25,none⟩=some (.slice pn.AM s.next.M.length pn.cM)∧w'.cell? ⟨g,26,none⟩=some (.slice pn.AO s.next.O.length pn.cO)) (by kernel_rfl) (Hc.out _ HW0.out) (fun hHeld=>?_)
 generalize w2.drew=u0 at *
 apply tkC 0
 apply tkC 1
 apply tkC 2
 apply tkC 3
 apply tkC 4
 apply tkC 5
 apply tkC 6
 apply tkC 7
 refine qah (i:=8) (by kernel_rfl) rfl (fun K hK=>?_);go_simp
 refine (HEn.out u0 HW0.out).mono ?_
 rintro en w3 ⟨A3,c3,rfl,ho3,hb3⟩
 have HB1:=Jh (HW0.out.trans (hb3.mono HW0.out.size))
 have hS1:=Hc.out _ HB1.out
 refine hK.out _ _ (fun _=>hS1) ?_
 clear hK K hHeld
 (try simp only [Act.put,Jk,Jg,Ji,Jd,Je,Jf])
 refine qah (i:=9) (by kernel_rfl) rfl (fun K hK=>?_);go_simp
 refine hK.out _ _ (fun _=>hS1) ?_
 clear hK K hS1
 (try simp only [Act.put,Jk,Jg,Ji,Jd,Je,Jf])
 have HC3:=Jh (HC.out.below HB1.out)
 have hb:=HB.out.below HB1.out HB.out.lt
 have HB3:=Jh hb
 have HO3:Hid (Only g w w3):=Jh (HO.out.trans (Only.of_below HB1.out))
 have HW3:=Jh (qa7 (base':=w.heap.size) ho3 (Nat.le_trans HO.out.size HW0.out.size))
 clear HEn ho3 hb3
 have q0:=hb.cell 0
 have r0:=hb.frozen 0
 have q1:=hb.cell 1
 have r1:=hb.frozen 1
 have q2:=hb.cell 2
 have r2:=hb.frozen 2
 have q3:=hb.cell 3
 have r3:=hb.frozen 3
 have q4:=hb.cell 4
 have r4:=hb.frozen 4
 have q5:=hb.cell 5
 have r5:=hb.frozen 5
 have q6:=hb.cell 6
 have r6:=hb.frozen 6
 simp only [Ja,Jb,Jc] at q0 q1 q2 q3 q4 q5 q6
 clear hb
 refine qah (i:=10) (by kernel_rfl) rfl (fun K hK=>?_);go_simp
 refine hK.out _ _ (fun h=>by cases h) ?_
 clear hK K
 (try simp only [Act.put,Jk,Jg,Ji,Jd,Je,Jf])
 refine qah (i:=11) (by kernel_rfl) rfl (fun K hK=>?_);go_simp
 refine hK.out _ _ (fun h=>by cases h) (qaw (by kernel_rfl) ?_ _)
 clear hK K
 go_wp2
 have hs:=qe9 HB3.out (.int .i64 2) (.string ⟨#[109,97,110,105,102,101,115,116]⟩) (.slice A3 (enc s.next).length c3) (.int .i64 s.ver) (.int .i64 0) (.int .i64 0) (.int .i64 0)
 refine bodyPost_ret (qaj rfl _ _ gc 35 (putCall A3 (enc s.next).length c3 s.ver) _ _ rfl rfl hs Tryz.underlying35 rfl (by kernel_rfl)) rfl ?_
 exact ⟨A3,c3,rfl,qa3 HW3.out (qcl _ _ _ _ _ _ _ _ _) HB3.out (by decide),HC3.out.other (qcl _ _ _ _ _ _ _ _ _) HB3.out (by decide) (by decide) (by decide) (by decide) (by decide),qd9 HO3.out HL.out _ _ _ _ _ _ _⟩
end
end Go.Proofs.YtibnehaibgbliaaGreat.Mf
