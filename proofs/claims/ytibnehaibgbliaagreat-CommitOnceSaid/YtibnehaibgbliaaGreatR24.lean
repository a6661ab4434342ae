/- Laws for the row's walk. -/
import Derived.Test.YtibnehaibgbliaaGreatR23
import Derived.Test.YtibnehaibgbliaaGreatR21
set_option linter.unusedVariables false
set_option linter.unusedSimpArgs false
open Go.Lib renaming hid → Jh
namespace Go.Proofs.YtibnehaibgbliaaGreat.Mf
open Go.RowKit Go.Proofs.YtibnehaibgbliaaGreat
def Two (w:World) (m:Md) (p:Pl) (d:Ed) (q:Pd) (W:World):Prop:=(W.cell? ⟨w.heap.size,0,none⟩=some (.int .i64 m.gen)∧W.cell? ⟨w.heap.size,1,none⟩=some (.int .i64 m.cut)∧W.cell? ⟨w.heap.size,2,none⟩=some (.int .i64 m.fence)∧W.cell? ⟨w.heap.size,3,none⟩=some (.slice p.AE m.E.length p.cE)∧W.cell? ⟨w.heap.size,4,none⟩=some (.slice p.AM m.M.length p.cM)∧W.cell? ⟨w.heap.size,5,none⟩=some (.slice p.AO m.O.length p.cO))∧W.cell? ⟨(w.heap.size+1),0,none⟩=some (.slice q.AA d.add.length q.cA)∧W.cell? ⟨(w.heap.size+1),1,none⟩=some (.slice q.AD d.drop.length q.cD)∧W.cell? ⟨(w.heap.size+1),2,none⟩=some (.slice q.AM d.marks.length q.cM)∧W.cell? ⟨(w.heap.size+1),3,none⟩=some (.int .i64 d.cut)∧W.cell? ⟨(w.heap.size+1),4,none⟩=some (.int .i64 d.fence)∧W.cell? ⟨(w.heap.size+1),5,none⟩=some (.int .i64 d.by_.agent)∧W.cell? ⟨(w.heap.size+1),6,none⟩=some (.int .i64 d.by_.life)∧W.cell? ⟨(w.heap.size+1),7,none⟩=some (.int .i64 d.by_.count)
def wmd (w:World) (m:Md) (p:Pl) (d:Ed) (q:Pd):World:=(w.alloc (.cells #[.int .i64 m.gen,.int .i64 m.cut,.int .i64 m.fence,.slice p.AE m.E.length p.cE,.slice p.AM m.M.length p.cM,.slice p.AO m.O.length p.cO] 53)).alloc (.cells #[.slice q.AA d.add.length q.cA,.slice q.AD d.drop.length q.cD,.slice q.AM d.marks.length q.cM,.int .i64 d.cut,.int .i64 d.fence,.int .i64 d.by_.agent,.int .i64 d.by_.life,.int .i64 d.by_.count] 28)
theorem wmd_below (w:World) (m:Md) (p:Pl) (d:Ed) (q:Pd) {W:World} (hW:Below (w.heap.size+2) (wmd w m p d q) W):Below w.heap.size w W∧w.heap.size+2≤W.heap.size:=by
 refine ⟨(((Below.refl w.heap.size w).alloc (Nat.le_refl _) (.cells #[.int .i64 m.gen,.int .i64 m.cut,.int .i64 m.fence,.slice p.AE m.E.length p.cE,.slice p.AM m.M.length p.cM,.slice p.AO m.O.length p.cO] 53)).alloc (by simp) (.cells #[.slice q.AA d.add.length q.cA,.slice q.AD d.drop.length q.cD,.slice q.AM d.marks.length q.cM,.int .i64 d.cut,.int .i64 d.fence,.int .i64 d.by_.agent,.int .i64 d.by_.life,.int .i64 d.by_.count] 28)).trans (hW.mono (by omega)),?_⟩
 have:=hW.size
 unfold wmd at this
 rw [World.size_alloc,World.size_alloc] at this
 exact this
theorem wmd_two (w:World) (m:Md) (p:Pl) (d:Ed) (q:Pd) {W:World} (hW:Below (w.heap.size+2) (wmd w m p d q) W):Two w m p d q W:=by
 have h1:=(((Blk.new w 53 #[.int .i64 m.gen,.int .i64 m.cut,.int .i64 m.fence,.slice p.AE m.E.length p.cE,.slice p.AM m.M.length p.cM,.slice p.AO m.O.length p.cO]).alloc (.cells #[.slice q.AA d.add.length q.cA,.slice q.AD d.drop.length q.cD,.slice q.AM d.marks.length q.cM,.int .i64 d.cut,.int .i64 d.fence,.int .i64 d.by_.agent,.int .i64 d.by_.life,.int .i64 d.by_.count] 28)).below hW (by omega))
 have h2:=Blk.new (w.alloc (.cells #[.int .i64 m.gen,.int .i64 m.cut,.int .i64 m.fence,.slice p.AE m.E.length p.cE,.slice p.AM m.M.length p.cM,.slice p.AO m.O.length p.cO] 53)) 28 #[.slice q.AA d.add.length q.cA,.slice q.AD d.drop.length q.cD,.slice q.AM d.marks.length q.cM,.int .i64 d.cut,.int .i64 d.fence,.int .i64 d.by_.agent,.int .i64 d.by_.life,.int .i64 d.by_.count]
 rw [World.size_alloc] at h2
 have h3:=Blk.below h2 hW (by omega)
 exact ⟨⟨h1.cell 0,h1.cell 1,h1.cell 2,h1.cell 3,h1.cell 4,h1.cell 5⟩,⟨h3.cell 0,h3.cell 1,h3.cell 2,h3.cell 3,h3.cell 4,h3.cell 5,h3.cell 6,h3.cell 7⟩⟩
set_option maxRecDepth 100000 in
set_option maxHeartbeats 12800000 in
theorem refusedR_calls (w:World) {B:Nat} {m:Md} {p:Pl} {d:Ed} {q:Pd} (h:Man w B m p) (hd:Edi w B d q) (hB:B≤w.heap.size) (hs:Short m.E) (hsd:Short d.add):Calls Tryz.prog 55 #[mdV m p,edV d q] w fun e w'=>e=.returned (.int .i64 (refE m d))∧Below w.heap.size w w':=by
 have HT:=Jh fun W=>wmd_two w m p d q (W:=W)
 have HB0:=Jh fun W=>wmd_below w m p d q (W:=W)
 have HR1:=Jh fun W (hW:Below w.heap.size w W)=>rightR_calls W (h.below (hW.mono hB)) (by have:=hW.size;omega) hs
 have HR2:=Jh fun W (hW:Below w.heap.size w W)=>editR_calls W (hd.below (hW.mono hB)) (by have:=hW.size;omega) hsd
 have HSq:=Jh fun W (hW:Below w.heap.size w W) k=>seqR_of W (h.below (hW.mono hB)) (by have:=hW.size;omega) k
 have HFi:=Jh fun W (hW:Below w.heap.size w W) k=>findR_of W (h.below (hW.mono hB)) (by have:=hW.size;omega) k
 have HHa:=Jh fun W (hW:Below w.heap.size w W) k=>has_calls W (c:=q.cD) k (hd.rd.below (hW.mono hB)) hd.ld
 have HRO:=Jh fun W (hW:Below w.heap.size w W)=>h.ro.below (hW.mono hB)
 have HRA:=Jh fun W (hW:Below w.heap.size w W)=>hd.ra.below (hW.mono hB)
 have HRD:=Jh fun W (hW:Below w.heap.size w W)=>hd.rd.below (hW.mono hB)
 have HRM:=Jh fun W (hW:Below w.heap.size w W)=>hd.rm.below (hW.mono hB)
 have HD:Hid (refE m d=if (!rightB m||!editB d)=true then 4 else if verB m d=true then 8 else if dupB m d=true then 12 else if lostB m d=true then 17 else if fenB m d=true then 11 else if exiB m d=true then 18 else if m.gen=1099511627775 then 2 else 0):=Jh rfl
 have hlo:=h.lo
 have hla:=hd.la
 have hld:=hd.ld
 have hlm:=hd.lm
 have HWm:Hid (wmd w m p d q=(w.alloc (.cells #[.int .i64 m.gen,.int .i64 m.cut,.int .i64 m.fence,.slice p.AE m.E.length p.cE,.slice p.AM m.M.length p.cM,.slice p.AO m.O.length p.cO] 53)).alloc (.cells #[.slice q.AA d.add.length q.cA,.slice q.AD d.drop.length q.cD,.slice q.AM d.marks.length q.cM,.int .i64 d.cut,.int .i64 d.fence,.int .i64 d.by_.agent,.int .i64 d.by_.life,.int .i64 d.by_.count] 28)):=Jh rfl
 clear h hd hs hsd
 generalize refE m d=out at *
 unfold Two at HT
 obtain ⟨AE,cE,AM,cM,AO,cO⟩:=p
 obtain ⟨DA,c1,DD,c2,DM,c3⟩:=q
 dsimp only at *
 have HW1:=Jh (Below.refl (w.heap.size+2) (wmd w m ⟨AE,cE,AM,cM,AO,cO⟩ d ⟨DA,c1,DD,c2,DM,c3⟩))
 go_enter Tryz.func55,Tryz.ntmps55
 go_wp2_with fail
 rw [← HWm.out]
 clear HWm
 generalize wmd w m ⟨AE,cE,AM,cM,AO,cO⟩ d ⟨DA,c1,DD,c2,DM,c3⟩=wm at *
 have hb0:=HB0.out _ HW1.out
 cases hr1:rightB m
 ·have HX:=HR1.out _ hb0.1
  rw [hr1] at HX
  have HX2:=Jh HX
  have HV:Hid (out=4):=Jh (by rw [HD.out,hr1];rfl)
  clear HX HD hr1
  refine HX2.out.mono ?_
  rintro e w1 ⟨rfl,hb1⟩
  go_wp2
  go_ret
  exact ⟨by rw [HV.out];rfl,hb0.1.trans (hb1.mono hb0.1.size)⟩
 have HX:=HR1.out _ hb0.1
 rw [hr1] at HX
 have HX2:=Jh HX
 clear HX
 refine HX2.out.mono ?_
 rintro e w1 ⟨rfl,hb1⟩
 have HW2:Hid (Below (w.heap.size+2) wm w1):=Jh (hb1.mono hb0.2)
 have hb2:=HB0.out _ HW2.out
 obtain ⟨-,s0,s1,s2,s3,s4,s5,s6,s7⟩:=HT.out _ HW2.out
 clear hb1 HW1 HR1
 cases hr2:editB d
 ·have HX:=HR2.out _ hb2.1
  rw [hr2] at HX
  have HX3:=Jh HX
  have HV:Hid (out=4):=Jh (by rw [HD.out,hr1,hr2];rfl)
  clear HX HD hr1 hr2
  go_wp2_with (go_at_call 83;refine HX3.out.mono ?_;rintro e w3 ⟨rfl,hb3⟩)
  go_ret
  exact ⟨by rw [HV.out];rfl,hb2.1.trans (hb3.mono hb2.1.size)⟩
 have HX:=HR2.out _ hb2.1
 rw [hr2] at HX
 have HX3:=Jh HX
 have HD2:Hid (out=if verB m d=true then 8 else if dupB m d=true then 12 else if lostB m d=true then 17 else if fenB m d=true then 11 else if exiB m d=true then 18 else if m.gen=1099511627775 then 2 else 0):=Jh (by rw [HD.out,hr1,hr2];rfl)
 clear HX HD hr1 hr2
 go_wp2_with (go_at_call 83;refine HX3.out.mono ?_;rintro e w3 ⟨rfl,hb3⟩;have HW3:Hid (Below (w.heap.size+2) wm w3):=Jh (HW2.out.trans (hb3.mono hb2.2));obtain ⟨⟨r0,r1,r2,r3,r4,r5⟩,⟨z0,z1,z2,z3,z4,z5,z6,z7⟩⟩:=HT.out w3 HW3.out)
 clear HW2 hb3 HR2 s0 s1 s2 s3 s4 s5 s6 s7 hb0 hb2
 go_loopw [26] (fun i wr=>∃ j:Nat,j≤m.O.length∧i=.int .i64 (j:Int)∧Hid (∀ i,i<j→(ver1 d) (gt m.O i)=false)∧Hid (Below (w.heap.size+2) wm wr)) (fun i _=>m.O.length-(intOf i).toNat)
 case atStart=>exact ⟨0,Nat.zero_le _,rfl,Jh (fun i hi=>absurd hi (Nat.not_lt_zero i)),HW3⟩
 case round =>
  clear HW3 r0 r1 r2 r3 r4 r5 z0 z1 z2 z3 z4 z5 z6 z7
  obtain ⟨j,hj,rfl,HF,HW3⟩:=hrel
  obtain ⟨hb00,hsz⟩:=HB0.out wr HW3.out
  obtain ⟨⟨s0,s1,s2,s3,s4,s5⟩,⟨t0,t1,t2,t3,t4,t5,t6,t7⟩⟩:=HT.out wr HW3.out
  have hg0:w.heap.size<wr.heap.size:=by omega
  have hg1:w.heap.size+1<wr.heap.size:=by omega
  by_cases hlt:j<m.O.length
  ·have hr:=HRO.out wr hb00
   obtain ⟨b,off,rfl,hbB⟩:=row_addr hr (by omega)
   obtain ⟨p0,p1,p2⟩:wr.cell? ⟨b,off+j*3,none⟩=some (.int .i64 (gt m.O j).agent)∧wr.cell? ⟨b,off+j*3+1,none⟩=some (.int .i64 (gt m.O j).life)∧wr.cell? ⟨b,off+j*3+2,none⟩=some (.int .i64 (gt m.O j).count):=⟨row_cell ocs_len hr hlt (j:=0) rfl,row_cell ocs_len hr hlt (j:=1) rfl,row_cell ocs_len hr hlt (j:=2) rfl⟩
   have HE:Hid (Below (w.heap.size+2) wm (wr.alloc (.cells #[.int .i64 (gt m.O j).agent,.int .i64 (gt m.O j).life,.int .i64 (gt m.O j).count] 26))):=Jh (HW3.out.trans (((Below.refl wr.heap.size wr).alloc (Nat.le_refl _) (.cells #[.int .i64 (gt m.O j).agent,.int .i64 (gt m.O j).life,.int .i64 (gt m.O j).count] 26)).mono hsz))
   have HNo:Hid (ver1 d (gt m.O j)=true→out=8):=Jh fun hh=>by rw [HD2.out];exact if_pos (any_yes (p:=ver1 d) hlt hh)
   have HY:=Jh (fun hh=>any_step (p:=ver1 d) HF.out hh)
   have HX:Hid (ver1 d (gt m.O j)=(decide ((gt m.O j).agent=d.by_.agent)&&(decide (d.by_.life<(gt m.O j).life)||(decide ((gt m.O j).life=d.by_.life)&&decide (d.by_.count≤(gt m.O j).count))))):=Jh rfl
   clear hr HF
   generalize gt m.O j=x at *
   by_cases e0:x.agent=d.by_.agent
   ·have f0:(x.agent == d.by_.agent)=true:=eqt e0
    by_cases e1:d.by_.life<x.life
    ·have f1:decide (d.by_.life<x.life)=true:=dct e1
     have HV:=Jh (HNo.out (by rw [HX.out,dct e0,dct e1];rfl))
     clear e0 e1 HX HNo HY
     go_wp2
     go_ret
     exact ⟨by rw [HV.out];rfl,(HB0.out _ HE.out).1⟩
    have f1:decide (d.by_.life<x.life)=false:=dcf e1
    by_cases e2:x.life=d.by_.life
    ·have f2:(x.life == d.by_.life)=true:=eqt e2
     by_cases e3:d.by_.count≤x.count
     ·have f3:decide (d.by_.count≤x.count)=true:=dct e3
      have HV:=Jh (HNo.out (by rw [HX.out,dct e0,dct e2,dct e3,Bool.and_true,Bool.or_true];rfl))
      clear e0 e1 e2 e3 HX HNo HY
      go_wp2
      go_ret
      exact ⟨by rw [HV.out];rfl,(HB0.out _ HE.out).1⟩
     have f3:decide (d.by_.count≤x.count)=false:=dcf e3
     have HY2:=Jh (HY.out (by rw [HX.out,dcf e1,dcf e3,Bool.and_false,Bool.or_false,Bool.and_false]))
     clear e0 e1 e2 e3 HX HNo HY
     go_wp2
     go_roundw
     case rel=>exact ⟨j+1,by omega,by go_num,HY2,HE⟩
     case measure=>simp [intOf];omega
    have f2:(x.life == d.by_.life)=false:=eqf e2
    have HY2:=Jh (HY.out (by rw [HX.out,dcf e1,dcf e2,Bool.false_and,Bool.or_false,Bool.and_false]))
    clear e0 e1 e2 HX HNo HY
    go_wp2
    go_roundw
    case rel=>exact ⟨j+1,by omega,by go_num,HY2,HE⟩
    case measure=>simp [intOf];omega
   have f0:(x.agent == d.by_.agent)=false:=eqf e0
   have HY2:=Jh (HY.out (by rw [HX.out,dcf e0,Bool.false_and]))
   clear e0 HX HNo HY
   go_wp2
   go_roundw
   case rel=>exact ⟨j+1,by omega,by go_num,HY2,HE⟩
   case measure=>simp [intOf];omega
  obtain rfl:j=m.O.length:=by omega
  have HD3:Hid (out=if dupB m d=true then 12 else if lostB m d=true then 17 else if fenB m d=true then 11 else if exiB m d=true then 18 else if m.gen=1099511627775 then 2 else 0):=Jh (by rw [HD2.out,if_neg (by rw [show verB m d=false from any_no HF.out];decide)])
  clear HD2 HF HRO hb00
  go_wp2
  go_loopw [64] (fun i wr=>∃ j:Nat,j≤d.marks.length∧i=.int .i64 (j:Int)∧Hid (∀ i,i<j→(dup1 m) (gt d.marks i)=false)∧Hid (Below (w.heap.size+2) wm wr)) (fun i _=>d.marks.length-(intOf i).toNat)
  case atStart=>exact ⟨0,Nat.zero_le _,rfl,Jh (fun i hi=>absurd hi (Nat.not_lt_zero i)),HW3⟩
  case round =>
   clear HW3 s0 s1 s2 s3 s4 s5 t0 t1 t2 t3 t4 t5 t6 t7
   obtain ⟨j,hj,rfl,HF,HW3⟩:=hrel
   obtain ⟨hb00,hsz⟩:=HB0.out wr HW3.out
   obtain ⟨⟨s0,s1,s2,s3,s4,s5⟩,⟨t0,t1,t2,t3,t4,t5,t6,t7⟩⟩:=HT.out wr HW3.out
   have hg0:w.heap.size<wr.heap.size:=by omega
   have hg1:w.heap.size+1<wr.heap.size:=by omega
   by_cases hlt:j<d.marks.length
   ·have hr:=HRM.out wr hb00
    obtain ⟨b,off,rfl,hbB⟩:=row_addr hr (by omega)
    obtain ⟨p0,p1⟩:wr.cell? ⟨b,off+j*2,none⟩=some (.int .i64 (gt d.marks j).maker)∧wr.cell? ⟨b,off+j*2+1,none⟩=some (.int .i64 (gt d.marks j).seq):=⟨row_cell mcs_len hr hlt (j:=0) rfl,row_cell mcs_len hr hlt (j:=1) rfl⟩
    have HB1:=Jh ((Below.refl wr.heap.size wr).alloc (Nat.le_refl _) (.cells #[.int .i64 (gt d.marks j).maker,.int .i64 (gt d.marks j).seq] 90))
    have HBL:Hid (∀ W,Below (wr.heap.size+1) (wr.alloc (.cells #[.int .i64 (gt d.marks j).maker,.int .i64 (gt d.marks j).seq] 90)) W→(W.cell? ⟨wr.heap.size,0,none⟩=some (.int .i64 (gt d.marks j).maker)∧W.cell? ⟨wr.heap.size,1,none⟩=some (.int .i64 (gt d.marks j).seq))∧W.cell? ⟨w.heap.size,0,none⟩=some (.int .i64 m.gen)∧W.cell? ⟨w.heap.size,1,none⟩=some (.int .i64 m.cut)∧W.cell? ⟨w.heap.size,2,none⟩=some (.int .i64 m.fence)∧W.cell? ⟨w.heap.size,3,none⟩=some (.slice (Pl.mk AE cE AM cM AO cO).AE m.E.length (Pl.mk AE cE AM cM AO cO).cE)∧W.cell? ⟨w.heap.size,4,none⟩=some (.slice (Pl.mk AE cE AM cM AO cO).AM m.M.length (Pl.mk AE cE AM cM AO cO).cM)∧W.cell? ⟨w.heap.size,5,none⟩=some (.slice (Pl.mk AE cE AM cM AO cO).AO m.O.length (Pl.mk AE cE AM cM AO cO).cO)):=Jh fun W hW=>by
     have hb:=(Blk.new wr 90 #[.int .i64 (gt d.marks j).maker,.int .i64 (gt d.marks j).seq]).below hW (Nat.lt_succ_self _)
     exact ⟨⟨hb.cell 0,hb.cell 1⟩,(HT.out W (HW3.out.trans ((HB1.out.trans (hW.mono (by omega))).mono hsz))).1⟩
    have HC:=Jh fun W (hW:Below (wr.heap.size+1) (wr.alloc (.cells #[.int .i64 (gt d.marks j).maker,.int .i64 (gt d.marks j).seq] 90)) W)=>HSq.out W (hb00.trans ((HB1.out.trans (hW.mono (by omega))).mono (by omega))) (gt d.marks j).maker
    have HNo:Hid (dup1 m (gt d.marks j)=true→out=12):=Jh fun hh=>by rw [HD3.out];exact if_pos (any_yes (p:=dup1 m) hlt hh)
    have HY:=Jh (fun hh=>any_step (p:=dup1 m) HF.out hh)
    have HX:Hid (dup1 m (gt d.marks j)=decide ((gt d.marks j).seq≤seqL (gt d.marks j).maker m.M)):=Jh rfl
    have HW4:=Jh fun W (hW:Below (wr.heap.size+1) (wr.alloc (.cells #[.int .i64 (gt d.marks j).maker,.int .i64 (gt d.marks j).seq] 90)) W)=>HW3.out.trans ((HB1.out.trans (hW.mono (by omega))).mono hsz)
    clear hr HF
    dsimp only at HBL
    generalize gt d.marks j=x at *
    generalize seqL x.maker m.M=s at *
    by_cases e0:x.seq≤s
    ·have f0:decide (x.seq≤s)=true:=dct e0
     have HV:=Jh (HNo.out (by rw [HX.out,dct e0]))
     clear e0 HX HNo HY
     go_wp2_with fail
     refine wp_region_T 99 (fun w'=>(w'.cell? ⟨wr.heap.size,0,none⟩=some (.int .i64 x.maker)∧w'.cell? ⟨wr.heap.size,1,none⟩=some (.int .i64 x.seq))∧w'.cell? ⟨w.heap.size,0,none⟩=some (.int .i64 m.gen)∧w'.cell? ⟨w.heap.size,1,none⟩=some (.int .i64 m.cut)∧w'.cell? ⟨w.heap.size,2,none⟩=some (.int .i64 m.fence)∧w'.cell? ⟨w.heap.size,3,none⟩=some (.slice (Pl.mk AE cE AM cM AO cO).AE m.E.length (Pl.mk AE cE AM cM AO cO).cE)∧w'.cell? ⟨w.heap.size,4,none⟩=some (.slice (Pl.mk AE cE AM cM AO cO).AM m.M.length (Pl.mk AE cE AM cM AO cO).cM)∧w'.cell? ⟨w.heap.size,5,none⟩=some (.slice (Pl.mk AE cE AM cM AO cO).AO m.O.length (Pl.mk AE cE AM cM AO cO).cO)) (by kernel_rfl) (HBL.out _ (below_drewN_ (Below.refl _ _) 1)) (fun hHeld=>?_)
     dsimp only at hHeld
     apply tkT 0
     apply tkT 1
     apply tkT 2
     apply tkT 3
     apply tkT 4
     refine wpAnyT_one (i:=5) (by kernel_rfl) rfl (fun K hK=>?_);go_simp
     refine (HC.out _ (below_drewN_ (Below.refl _ _) 1)).mono ?_
     rintro e wa ⟨rfl,hba⟩
     have hea0:Below (wr.heap.size+1) (wr.alloc (.cells #[.int .i64 x.maker,.int .i64 x.seq] 90)) wa:=(below_drewN_ (Below.refl _ _) 1).trans (hba.mono (by simp [World.drew]))
     have HE:=Jh (HW4.out _ hea0)
     have hHa:=HBL.out _ hea0
     refine hK.out _ _ (fun _=>hHa) ?_
     clear hK K hHeld hba
     apply tkT 6
     refine wpAnyT_done (by kernel_rfl) ?_ _
     go_wp2
     go_ret
     exact ⟨by rw [HV.out];rfl,(HB0.out _ HE.out).1⟩
    have f0:decide (x.seq≤s)=false:=dcf e0
    have HY2:=Jh (HY.out (by rw [HX.out,dcf e0]))
    clear e0 HX HNo HY
    go_wp2_with fail
    refine wp_region_T 99 (fun w'=>(w'.cell? ⟨wr.heap.size,0,none⟩=some (.int .i64 x.maker)∧w'.cell? ⟨wr.heap.size,1,none⟩=some (.int .i64 x.seq))∧w'.cell? ⟨w.heap.size,0,none⟩=some (.int .i64 m.gen)∧w'.cell? ⟨w.heap.size,1,none⟩=some (.int .i64 m.cut)∧w'.cell? ⟨w.heap.size,2,none⟩=some (.int .i64 m.fence)∧w'.cell? ⟨w.heap.size,3,none⟩=some (.slice (Pl.mk AE cE AM cM AO cO).AE m.E.length (Pl.mk AE cE AM cM AO cO).cE)∧w'.cell? ⟨w.heap.size,4,none⟩=some (.slice (Pl.mk AE cE AM cM AO cO).AM m.M.length (Pl.mk AE cE AM cM AO cO).cM)∧w'.cell? ⟨w.heap.size,5,none⟩=some (.slice (Pl.mk AE cE AM cM AO cO).AO m.O.length (Pl.mk AE cE AM cM AO cO).cO)) (by kernel_rfl) (HBL.out _ (below_drewN_ (Below.refl _ _) 1)) (fun hHeld=>?_)
    dsimp only at hHeld
    apply tkT 0
    apply tkT 1
    apply tkT 2
    apply tkT 3
    apply tkT 4
    refine wpAnyT_one (i:=5) (by kernel_rfl) rfl (fun K hK=>?_);go_simp
    refine (HC.out _ (below_drewN_ (Below.refl _ _) 1)).mono ?_
    rintro e wa ⟨rfl,hba⟩
    have hea0:Below (wr.heap.size+1) (wr.alloc (.cells #[.int .i64 x.maker,.int .i64 x.seq] 90)) wa:=(below_drewN_ (Below.refl _ _) 1).trans (hba.mono (by simp [World.drew]))
    have HE:=Jh (HW4.out _ hea0)
    have hHa:=HBL.out _ hea0
    refine hK.out _ _ (fun _=>hHa) ?_
    clear hK K hHeld hba
    apply tkT 6
    refine wpAnyT_done (by kernel_rfl) ?_ _
    go_wp2
    go_roundw
    case rel=>exact ⟨j+1,by omega,by go_num,HY2,HE⟩
    case measure=>simp [intOf];omega
   obtain rfl:j=d.marks.length:=by omega
   have HD4:Hid (out=if lostB m d=true then 17 else if fenB m d=true then 11 else if exiB m d=true then 18 else if m.gen=1099511627775 then 2 else 0):=Jh (by rw [HD3.out,if_neg (by rw [show dupB m d=false from any_no HF.out];decide)])
   clear HD3 HF HRM HSq hb00
   go_wp2
   go_loopw [79] (fun i wr=>∃ j:Nat,j≤d.drop.length∧i=.int .i64 (j:Int)∧Hid (∀ i,i<j→(lost1 m) (gt d.drop i)=false)∧Hid (Below (w.heap.size+2) wm wr)) (fun i _=>d.drop.length-(intOf i).toNat)
   case atStart=>exact ⟨0,Nat.zero_le _,rfl,Jh (fun i hi=>absurd hi (Nat.not_lt_zero i)),HW3⟩
   case round =>
    clear HW3 s0 s1 s2 s3 s4 s5 t0 t1 t2 t3 t4 t5 t6 t7
    obtain ⟨j,hj,rfl,HF,HW3⟩:=hrel
    obtain ⟨hb00,hsz⟩:=HB0.out wr HW3.out
    obtain ⟨⟨s0,s1,s2,s3,s4,s5⟩,⟨t0,t1,t2,t3,t4,t5,t6,t7⟩⟩:=HT.out wr HW3.out
    have hg0:w.heap.size<wr.heap.size:=by omega
    have hg1:w.heap.size+1<wr.heap.size:=by omega
    by_cases hlt:j<d.drop.length
    ·have hr:=HRD.out wr hb00
     obtain ⟨b,off,rfl,hbB⟩:=row_addr hr (by omega)
     have p0:=strs_cell hr hlt
     have HC:=Jh (HFi.out wr hb00 (gt d.drop j))
     have HNo:Hid (lost1 m (gt d.drop j)=true→out=17):=Jh fun hh=>by rw [HD4.out];exact if_pos (any_yes (p:=lost1 m) hlt hh)
     have HY:=Jh (fun hh=>any_step (p:=lost1 m) HF.out hh)
     have HX:Hid (lost1 m (gt d.drop j)=decide (ix (keyIs (gt d.drop j)) m.E<0)):=Jh (by rw [ix_has];rfl)
     clear hr HF
     generalize gt d.drop j=x at *
     generalize ix (keyIs x) m.E=s at *
     by_cases e0:s<0
     ·have f0:decide (s<0)=true:=dct e0
      have HV:=Jh (HNo.out (by rw [HX.out,dct e0]))
      clear e0 HX HNo HY
      go_wp2_with (go_at_call 84;refine HC.out.mono ?_;rintro e w4 ⟨rfl,hb4⟩)
      have HE:=Jh (HW3.out.trans (hb4.mono hsz))
      go_ret
      exact ⟨by rw [HV.out];rfl,(HB0.out _ HE.out).1⟩
     have f0:decide (s<0)=false:=dcf e0
     have HY2:=Jh (HY.out (by rw [HX.out,dcf e0]))
     clear e0 HX HNo HY
     go_wp2_with (go_at_call 84;refine HC.out.mono ?_;rintro e w4 ⟨rfl,hb4⟩)
     have HE:=Jh (HW3.out.trans (hb4.mono hsz))
     go_roundw
     case rel=>exact ⟨j+1,by omega,by go_num,HY2,HE⟩
     case measure=>simp [intOf];omega
    obtain rfl:j=d.drop.length:=by omega
    have HD5:Hid (out=if fenB m d=true then 11 else if exiB m d=true then 18 else if m.gen=1099511627775 then 2 else 0):=Jh (by rw [HD4.out,if_neg (by rw [show lostB m d=false from any_no HF.out];decide)])
    clear HD4 HF HRD hb00
    go_wp2
    go_loopw [91] (fun i wr=>∃ j:Nat,j≤d.add.length∧i=.int .i64 (j:Int)∧Hid (∀ i,i<j→(fen1 m d) (gt d.add i)=false)∧Hid (Below (w.heap.size+2) wm wr)) (fun i _=>d.add.length-(intOf i).toNat)
    case atStart=>exact ⟨0,Nat.zero_le _,rfl,Jh (fun i hi=>absurd hi (Nat.not_lt_zero i)),HW3⟩
    case round =>
     clear HW3 s0 s1 s2 s3 s4 s5 t0 t1 t2 t3 t4 t5 t6 t7
     obtain ⟨j,hj,rfl,HF,HW3⟩:=hrel
     obtain ⟨hb00,hsz⟩:=HB0.out wr HW3.out
     obtain ⟨⟨s0,s1,s2,s3,s4,s5⟩,⟨t0,t1,t2,t3,t4,t5,t6,t7⟩⟩:=HT.out wr HW3.out
     have hg0:w.heap.size<wr.heap.size:=by omega
     have hg1:w.heap.size+1<wr.heap.size:=by omega
     by_cases hlt:j<d.add.length
     ·have hr:=HRA.out wr hb00
      obtain ⟨b,off,rfl,hbB⟩:=row_addr hr (by omega)
      obtain ⟨p0,p1,p2,p3,p4,p5,p6,p7,p8⟩:wr.cell? ⟨b,off+j*9,none⟩=some (.string (gt d.add j).key)∧wr.cell? ⟨b,off+j*9+1,none⟩=some (.int .i64 (gt d.add j).window)∧wr.cell? ⟨b,off+j*9+2,none⟩=some (.string (gt d.add j).part)∧wr.cell? ⟨b,off+j*9+3,none⟩=some (.int .i64 (gt d.add j).first)∧wr.cell? ⟨b,off+j*9+4,none⟩=some (.int .i64 (gt d.add j).last)∧wr.cell? ⟨b,off+j*9+5,none⟩=some (.int .i64 (gt d.add j).rows)∧wr.cell? ⟨b,off+j*9+6,none⟩=some (.int .i64 (gt d.add j).size)∧wr.cell? ⟨b,off+j*9+7,none⟩=some (.int .u32 (gt d.add j).sum)∧wr.cell? ⟨b,off+j*9+8,none⟩=some (.int .i64 (gt d.add j).born):=⟨row_cell ecs_len hr hlt (j:=0) rfl,row_cell ecs_len hr hlt (j:=1) rfl,row_cell ecs_len hr hlt (j:=2) rfl,row_cell ecs_len hr hlt (j:=3) rfl,row_cell ecs_len hr hlt (j:=4) rfl,row_cell ecs_len hr hlt (j:=5) rfl,row_cell ecs_len hr hlt (j:=6) rfl,row_cell ecs_len hr hlt (j:=7) rfl,row_cell ecs_len hr hlt (j:=8) rfl⟩
      have HE:Hid (Below (w.heap.size+2) wm (wr.alloc (.cells #[.string (gt d.add j).key,.int .i64 (gt d.add j).window,.string (gt d.add j).part,.int .i64 (gt d.add j).first,.int .i64 (gt d.add j).last,.int .i64 (gt d.add j).rows,.int .i64 (gt d.add j).size,.int .u32 (gt d.add j).sum,.int .i64 (gt d.add j).born] 85))):=Jh (HW3.out.trans (((Below.refl wr.heap.size wr).alloc (Nat.le_refl _) (.cells #[.string (gt d.add j).key,.int .i64 (gt d.add j).window,.string (gt d.add j).part,.int .i64 (gt d.add j).first,.int .i64 (gt d.add j).last,.int .i64 (gt d.add j).rows,.int .i64 (gt d.add j).size,.int .u32 (gt d.add j).sum,.int .i64 (gt d.add j).born] 85)).mono hsz))
      have HNo:Hid (fen1 m d (gt d.add j)=true→out=11):=Jh fun hh=>by rw [HD5.out];exact if_pos (any_yes (p:=fen1 m d) hlt hh)
      have HY:=Jh (fun hh=>any_step (p:=fen1 m d) HF.out hh)
      have HX:Hid (fen1 m d (gt d.add j)=(decide ((gt d.add j).born<m.fence)||decide ((gt d.add j).born<d.fence))):=Jh rfl
      clear hr HF
      generalize gt d.add j=x at *
      by_cases e0:x.born<m.fence
      ·have f0:decide (x.born<m.fence)=true:=dct e0
       have HV:=Jh (HNo.out (by rw [HX.out,dct e0];rfl))
       clear e0 HX HNo HY
       go_wp2
       go_ret
       exact ⟨by rw [HV.out];rfl,(HB0.out _ HE.out).1⟩
      have f0:decide (x.born<m.fence)=false:=dcf e0
      by_cases e1:x.born<d.fence
      ·have f1:decide (x.born<d.fence)=true:=dct e1
       have HV:=Jh (HNo.out (by rw [HX.out,dct e1,Bool.or_true]))
       clear e0 e1 HX HNo HY
       go_wp2
       go_ret
       exact ⟨by rw [HV.out];rfl,(HB0.out _ HE.out).1⟩
      have f1:decide (x.born<d.fence)=false:=dcf e1
      have HY2:=Jh (HY.out (by rw [HX.out,dcf e0,dcf e1];rfl))
      clear e0 e1 HX HNo HY
      go_wp2
      go_roundw
      case rel=>exact ⟨j+1,by omega,by go_num,HY2,HE⟩
      case measure=>simp [intOf];omega
     obtain rfl:j=d.add.length:=by omega
     have HD6:Hid (out=if exiB m d=true then 18 else if m.gen=1099511627775 then 2 else 0):=Jh (by rw [HD5.out,if_neg (by rw [show fenB m d=false from any_no HF.out];decide)])
     clear HD5 HF hb00
     go_wp2
     go_loopw [111] (fun i wr=>∃ j:Nat,j≤d.add.length∧i=.int .i64 (j:Int)∧Hid (∀ i,i<j→(exi1 m d) (gt d.add i)=false)∧Hid (Below (w.heap.size+2) wm wr)) (fun i _=>d.add.length-(intOf i).toNat)
     case atStart=>exact ⟨0,Nat.zero_le _,rfl,Jh (fun i hi=>absurd hi (Nat.not_lt_zero i)),HW3⟩
     case round =>
      clear HW3 s0 s1 s2 s3 s4 s5 t0 t1 t2 t3 t4 t5 t6 t7
      obtain ⟨j,hj,rfl,HF,HW3⟩:=hrel
      obtain ⟨hb00,hsz⟩:=HB0.out wr HW3.out
      obtain ⟨⟨s0,s1,s2,s3,s4,s5⟩,⟨t0,t1,t2,t3,t4,t5,t6,t7⟩⟩:=HT.out wr HW3.out
      have hg0:w.heap.size<wr.heap.size:=by omega
      have hg1:w.heap.size+1<wr.heap.size:=by omega
      by_cases hlt:j<d.add.length
      ·have hr:=HRA.out wr hb00
       obtain ⟨b,off,rfl,hbB⟩:=row_addr hr (by omega)
       obtain ⟨p0,p1,p2,p3,p4,p5,p6,p7,p8⟩:wr.cell? ⟨b,off+j*9,none⟩=some (.string (gt d.add j).key)∧wr.cell? ⟨b,off+j*9+1,none⟩=some (.int .i64 (gt d.add j).window)∧wr.cell? ⟨b,off+j*9+2,none⟩=some (.string (gt d.add j).part)∧wr.cell? ⟨b,off+j*9+3,none⟩=some (.int .i64 (gt d.add j).first)∧wr.cell? ⟨b,off+j*9+4,none⟩=some (.int .i64 (gt d.add j).last)∧wr.cell? ⟨b,off+j*9+5,none⟩=some (.int .i64 (gt d.add j).rows)∧wr.cell? ⟨b,off+j*9+6,none⟩=some (.int .i64 (gt d.add j).size)∧wr.cell? ⟨b,off+j*9+7,none⟩=some (.int .u32 (gt d.add j).sum)∧wr.cell? ⟨b,off+j*9+8,none⟩=some (.int .i64 (gt d.add j).born):=⟨row_cell ecs_len hr hlt (j:=0) rfl,row_cell ecs_len hr hlt (j:=1) rfl,row_cell ecs_len hr hlt (j:=2) rfl,row_cell ecs_len hr hlt (j:=3) rfl,row_cell ecs_len hr hlt (j:=4) rfl,row_cell ecs_len hr hlt (j:=5) rfl,row_cell ecs_len hr hlt (j:=6) rfl,row_cell ecs_len hr hlt (j:=7) rfl,row_cell ecs_len hr hlt (j:=8) rfl⟩
       have HB1:=Jh ((Below.refl wr.heap.size wr).alloc (Nat.le_refl _) (.cells #[.string (gt d.add j).key,.int .i64 (gt d.add j).window,.string (gt d.add j).part,.int .i64 (gt d.add j).first,.int .i64 (gt d.add j).last,.int .i64 (gt d.add j).rows,.int .i64 (gt d.add j).size,.int .u32 (gt d.add j).sum,.int .i64 (gt d.add j).born] 85))
       have HC:=Jh (HFi.out (wr.alloc (.cells #[.string (gt d.add j).key,.int .i64 (gt d.add j).window,.string (gt d.add j).part,.int .i64 (gt d.add j).first,.int .i64 (gt d.add j).last,.int .i64 (gt d.add j).rows,.int .i64 (gt d.add j).size,.int .u32 (gt d.add j).sum,.int .i64 (gt d.add j).born] 85)) (hb00.trans (HB1.out.mono hb00.size)) (gt d.add j).key)
       have HBL:Hid (∀ W,Below (wr.heap.size+1) (wr.alloc (.cells #[.string (gt d.add j).key,.int .i64 (gt d.add j).window,.string (gt d.add j).part,.int .i64 (gt d.add j).first,.int .i64 (gt d.add j).last,.int .i64 (gt d.add j).rows,.int .i64 (gt d.add j).size,.int .u32 (gt d.add j).sum,.int .i64 (gt d.add j).born] 85)) W→(W.cell? ⟨wr.heap.size,0,none⟩=some (.string (gt d.add j).key)∧W.cell? ⟨wr.heap.size,1,none⟩=some (.int .i64 (gt d.add j).window)∧W.cell? ⟨wr.heap.size,2,none⟩=some (.string (gt d.add j).part)∧W.cell? ⟨wr.heap.size,3,none⟩=some (.int .i64 (gt d.add j).first)∧W.cell? ⟨wr.heap.size,4,none⟩=some (.int .i64 (gt d.add j).last)∧W.cell? ⟨wr.heap.size,5,none⟩=some (.int .i64 (gt d.add j).rows)∧W.cell? ⟨wr.heap.size,6,none⟩=some (.int .i64 (gt d.add j).size)∧W.cell? ⟨wr.heap.size,7,none⟩=some (.int .u32 (gt d.add j).sum)∧W.cell? ⟨wr.heap.size,8,none⟩=some (.int .i64 (gt d.add j).born))∧W.cell? ⟨w.heap.size+1,1,none⟩=some (.slice DD d.drop.length c2)):=Jh fun W hW=>by
        have hb:=(Blk.new wr 85 #[.string (gt d.add j).key,.int .i64 (gt d.add j).window,.string (gt d.add j).part,.int .i64 (gt d.add j).first,.int .i64 (gt d.add j).last,.int .i64 (gt d.add j).rows,.int .i64 (gt d.add j).size,.int .u32 (gt d.add j).sum,.int .i64 (gt d.add j).born]).below hW (Nat.lt_succ_self _)
        exact ⟨⟨hb.cell 0,hb.cell 1,hb.cell 2,hb.cell 3,hb.cell 4,hb.cell 5,hb.cell 6,hb.cell 7,hb.cell 8⟩,(HT.out W (HW3.out.trans ((HB1.out.trans (hW.mono (by omega))).mono hsz))).2.2.1⟩
       have HC2:=Jh fun W (hW:Below (wr.heap.size+1) (wr.alloc (.cells #[.string (gt d.add j).key,.int .i64 (gt d.add j).window,.string (gt d.add j).part,.int .i64 (gt d.add j).first,.int .i64 (gt d.add j).last,.int .i64 (gt d.add j).rows,.int .i64 (gt d.add j).size,.int .u32 (gt d.add j).sum,.int .i64 (gt d.add j).born] 85)) W)=>HHa.out W (hb00.trans ((HB1.out.trans (hW.mono (by omega))).mono hb00.size)) (gt d.add j).key
       have HNo:Hid (exi1 m d (gt d.add j)=true→out=18):=Jh fun hh=>by rw [HD6.out];exact if_pos (any_yes (p:=exi1 m d) hlt hh)
       have HY:=Jh (fun hh=>any_step (p:=exi1 m d) HF.out hh)
       have HX:Hid (exi1 m d (gt d.add j)=(decide (0≤ix (keyIs (gt d.add j).key) m.E)&&!hasB d.drop (gt d.add j).key)):=Jh (by rw [ix_has'];rfl)
       have HW4:=Jh fun W (hW:Below (wr.heap.size+1) (wr.alloc (.cells #[.string (gt d.add j).key,.int .i64 (gt d.add j).window,.string (gt d.add j).part,.int .i64 (gt d.add j).first,.int .i64 (gt d.add j).last,.int .i64 (gt d.add j).rows,.int .i64 (gt d.add j).size,.int .u32 (gt d.add j).sum,.int .i64 (gt d.add j).born] 85)) W)=>HW3.out.trans ((HB1.out.trans (hW.mono (by omega))).mono hsz)
       clear hr HF
       generalize gt d.add j=x at *
       generalize ix (keyIs x.key) m.E=s at *
       by_cases e0:0≤s
       ·have f0:decide (0≤s)=true:=dct e0
        cases hh:hasB d.drop x.key
        ·have HV:=Jh (HNo.out (by rw [HX.out,dct e0,hh];rfl))
         simp only [hh] at HC2
         clear e0 HX HNo HY hh
         go_wp2_with fail
         refine HC.out.mono ?_
         rintro e w4 ⟨rfl,hb4⟩
         have hb5:=hb4.mono (show wr.heap.size+1≤(wr.alloc (.cells #[.string x.key,.int .i64 x.window,.string x.part,.int .i64 x.first,.int .i64 x.last,.int .i64 x.rows,.int .i64 x.size,.int .u32 x.sum,.int .i64 x.born] 85)).heap.size by simp)
         obtain ⟨⟨v0,v1,v2,v3,v4,v5,v6,v7,v8⟩,v9⟩:=HBL.out w4 hb5
         have HE:=Jh (HW4.out w4 hb5)
         have HH:=Jh (HC2.out w4 hb5)
         go_wp2_with (go_at_call 56;refine HH.out.mono ?_;rintro e w5 ⟨rfl,rfl⟩)
         go_ret
         exact ⟨by rw [HV.out];rfl,(HB0.out _ HE.out).1⟩
        have HY2:=Jh (HY.out (by rw [HX.out,hh,Bool.not_true,Bool.and_false]))
        simp only [hh] at HC2
        clear e0 HX HNo HY hh
        go_wp2_with fail
        refine HC.out.mono ?_
        rintro e w4 ⟨rfl,hb4⟩
        have hb5:=hb4.mono (show wr.heap.size+1≤(wr.alloc (.cells #[.string x.key,.int .i64 x.window,.string x.part,.int .i64 x.first,.int .i64 x.last,.int .i64 x.rows,.int .i64 x.size,.int .u32 x.sum,.int .i64 x.born] 85)).heap.size by simp)
        obtain ⟨⟨v0,v1,v2,v3,v4,v5,v6,v7,v8⟩,v9⟩:=HBL.out w4 hb5
        have HE:=Jh (HW4.out w4 hb5)
        have HH:=Jh (HC2.out w4 hb5)
        go_wp2_with (go_at_call 56;refine HH.out.mono ?_;rintro e w5 ⟨rfl,rfl⟩)
        go_roundw
        case rel=>exact ⟨j+1,by omega,by go_num,HY2,HE⟩
        case measure=>simp [intOf];omega
       have f0:decide (0≤s)=false:=dcf e0
       have HY2:=Jh (HY.out (by rw [HX.out,dcf e0,Bool.false_and]))
       clear e0 HX HNo HY HC2
       go_wp2_with (go_at_call 84;refine HC.out.mono ?_;rintro e w4 ⟨rfl,hb4⟩)
       have HE:=Jh (HW4.out w4 (hb4.mono (by simp)))
       go_roundw
       case rel=>exact ⟨j+1,by omega,by go_num,HY2,HE⟩
       case measure=>simp [intOf];omega
      obtain rfl:j=d.add.length:=by omega
      have HD7:Hid (out=if m.gen=1099511627775 then 2 else 0):=Jh (by rw [HD6.out,if_neg (by rw [show exiB m d=false from any_no HF.out];decide)])
      clear HD6 HF
      by_cases e0:m.gen=1099511627775
      ·have f0:(m.gen == 1099511627775)=true:=eqt e0
       have HV:Hid (out=2):=Jh (by rw [HD7.out,if_pos e0])
       clear e0 HD7
       go_wp2
       go_ret
       exact ⟨by rw [HV.out];rfl,hb00⟩
      have f0:(m.gen == 1099511627775)=false:=eqf e0
      have HV:Hid (out=0):=Jh (by rw [HD7.out,if_neg e0])
      clear e0 HD7
      go_wp2
      go_ret
      exact ⟨by rw [HV.out];rfl,hb00⟩
end Go.Proofs.YtibnehaibgbliaaGreat.Mf
