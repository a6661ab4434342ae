/- Laws for the row's walk. -/
import Derived.Test.YtibnehaibgbliaaGreatR13
set_option linter.unusedVariables false
set_option linter.unusedSimpArgs false
open Go.Lib renaming hid → Jh
namespace Go.Proofs.YtibnehaibgbliaaGreat.Mf
open Go.RowKit Go.Proofs.YtibnehaibgbliaaGreat
set_option maxRecDepth 100000 in
set_option maxHeartbeats 12800000 in
theorem editR_calls (w:World) {B:Nat} {d:Ed} {p:Pd} (h:Edi w B d p) (hB:B≤w.heap.size) (hs:Short d.add):Calls Tryz.prog 83 #[edV d p] w fun e w'=>e=.returned (.bool (editB d))∧Below w.heap.size w w':=by
 have HK:Hid (∀ W,Below (w.heap.size+1) (w.alloc (.cells #[.slice p.AA d.add.length p.cA,.slice p.AD d.drop.length p.cD,.slice p.AM d.marks.length p.cM,.int .i64 d.cut,.int .i64 d.fence,.int .i64 d.by_.agent,.int .i64 d.by_.life,.int .i64 d.by_.count] 28)) W→W.cell? ⟨w.heap.size,0,none⟩=some (.slice p.AA d.add.length p.cA)∧W.cell? ⟨w.heap.size,1,none⟩=some (.slice p.AD d.drop.length p.cD)∧W.cell? ⟨w.heap.size,2,none⟩=some (.slice p.AM d.marks.length p.cM)∧W.cell? ⟨w.heap.size,3,none⟩=some (.int .i64 d.cut)∧W.cell? ⟨w.heap.size,4,none⟩=some (.int .i64 d.fence)∧W.cell? ⟨w.heap.size,5,none⟩=some (.int .i64 d.by_.agent)∧W.cell? ⟨w.heap.size,6,none⟩=some (.int .i64 d.by_.life)∧W.cell? ⟨w.heap.size,7,none⟩=some (.int .i64 d.by_.count)):=Jh fun W hW=>by
  have hb:=(Blk.new w 28 #[.slice p.AA d.add.length p.cA,.slice p.AD d.drop.length p.cD,.slice p.AM d.marks.length p.cM,.int .i64 d.cut,.int .i64 d.fence,.int .i64 d.by_.agent,.int .i64 d.by_.life,.int .i64 d.by_.count]).below hW (Nat.lt_succ_self _)
  exact ⟨hb.cell 0,hb.cell 1,hb.cell 2,hb.cell 3,hb.cell 4,hb.cell 5,hb.cell 6,hb.cell 7⟩
 have HB0:Hid (∀ W,Below (w.heap.size+1) (w.alloc (.cells #[.slice p.AA d.add.length p.cA,.slice p.AD d.drop.length p.cD,.slice p.AM d.marks.length p.cM,.int .i64 d.cut,.int .i64 d.fence,.int .i64 d.by_.agent,.int .i64 d.by_.life,.int .i64 d.by_.count] 28)) W→Below w.heap.size w W∧w.heap.size+1≤W.heap.size):=Jh fun W hW=>⟨((Below.refl w.heap.size w).alloc (Nat.le_refl _) _).trans (hW.mono (by omega)),by have:=hW.size;rw [World.size_alloc] at this;exact this⟩
 have HRA:=Jh fun W (hW:Below w.heap.size w W)=>h.ra.below (hW.mono hB)
 have HRD:=Jh fun W (hW:Below w.heap.size w W)=>h.rd.below (hW.mono hB)
 have HRM:=Jh fun W (hW:Below w.heap.size w W)=>h.rm.below (hW.mono hB)
 have HX:=Jh fun x (hx:x∈d.add) W=>entryR_calls x W (h.ok x hx) (h.ok x hx).part
 have HDs:Hid (∀ x∈d.drop,x.size≤140737488351232):=Jh fun x hx=>h.okd x hx
 have HN:=Jh numR_calls
 have HW:=Jh (ownerR_calls d.by_)
 have HD:Hid (editB d=(d.add.all enB&&d.drop.all keyB&&decide (keys d.add).Nodup&&decide d.drop.Nodup&&risB mkB ltP d.marks&&numB d.cut 0&&numB d.fence 0&&owB d.by_)):=Jh rfl
 have hla:=h.la
 have hld:=h.ld
 have hlm:=h.lm
 have hcd:=h.cd
 clear h hs
 generalize editB d=out at *
 obtain ⟨AA,cA,AD,cD,AM,cM⟩:=p
 dsimp only at *
 go_enter Tryz.func83,Tryz.ntmps83
 go_wp2
 have HW1:=Jh (Below.refl (w.heap.size+1) (w.alloc (.cells #[.slice AA d.add.length cA,.slice AD d.drop.length cD,.slice AM d.marks.length cM,.int .i64 d.cut,.int .i64 d.fence,.int .i64 d.by_.agent,.int .i64 d.by_.life,.int .i64 d.by_.count] 28)))
 generalize w.alloc (.cells #[.slice AA d.add.length cA,.slice AD d.drop.length cD,.slice AM d.marks.length cM,.int .i64 d.cut,.int .i64 d.fence,.int .i64 d.by_.agent,.int .i64 d.by_.life,.int .i64 d.by_.count] 28)=wm at *
 go_loopw [13] (fun i wr=>∃ j:Nat,j≤d.add.length∧i=.int .i64 (j:Int)∧Hid (NdP enB En.key d.add j)∧Hid (Below (w.heap.size+1) wm wr)) (fun i _=>d.add.length-(intOf i).toNat)
 case atStart=>exact ⟨0,Nat.zero_le _,rfl,Jh (fun i hi=>absurd hi (Nat.not_lt_zero i)),HW1⟩
 case round =>
  clear HW1
  obtain ⟨j,hj,rfl,HA,HW1⟩:=hrel
  obtain ⟨wo,rfl⟩:∃ wo:World,wo=wr:=⟨_,rfl⟩
  by_cases hlt:j<d.add.length
  ·obtain ⟨hb00,hsz⟩:=HB0.out wo HW1.out
   have hr:=HRA.out wo hb00
   obtain ⟨b,off,rfl,hbB⟩:=row_addr hr (by omega)
   have HG:Hid (∀ W,Below wo.heap.size wo W→∀ i,i<d.add.length→W.cell? ⟨b,off+i*9,none⟩=some (.string (gt d.add i).key)∧W.cell? ⟨b,off+i*9+1,none⟩=some (.int .i64 (gt d.add i).window)∧W.cell? ⟨b,off+i*9+2,none⟩=some (.string (gt d.add i).part)∧W.cell? ⟨b,off+i*9+3,none⟩=some (.int .i64 (gt d.add i).first)∧W.cell? ⟨b,off+i*9+4,none⟩=some (.int .i64 (gt d.add i).last)∧W.cell? ⟨b,off+i*9+5,none⟩=some (.int .i64 (gt d.add i).rows)∧W.cell? ⟨b,off+i*9+6,none⟩=some (.int .i64 (gt d.add i).size)∧W.cell? ⟨b,off+i*9+7,none⟩=some (.int .u32 (gt d.add i).sum)∧W.cell? ⟨b,off+i*9+8,none⟩=some (.int .i64 (gt d.add i).born)):=Jh fun W hW i hi=>⟨row_cell ecs_len (hr.below (hW.mono (by omega))) hi (j:=0) rfl,row_cell ecs_len (hr.below (hW.mono (by omega))) hi (j:=1) rfl,row_cell ecs_len (hr.below (hW.mono (by omega))) hi (j:=2) rfl,row_cell ecs_len (hr.below (hW.mono (by omega))) hi (j:=3) rfl,row_cell ecs_len (hr.below (hW.mono (by omega))) hi (j:=4) rfl,row_cell ecs_len (hr.below (hW.mono (by omega))) hi (j:=5) rfl,row_cell ecs_len (hr.below (hW.mono (by omega))) hi (j:=6) rfl,row_cell ecs_len (hr.below (hW.mono (by omega))) hi (j:=7) rfl,row_cell ecs_len (hr.below (hW.mono (by omega))) hi (j:=8) rfl⟩
   obtain ⟨p0,p1,p2,p3,p4,p5,p6,p7,p8⟩:=HG.out wo (Below.refl _ _) j hlt
   have HB1:=Jh ((Below.refl wo.heap.size wo).alloc (Nat.le_refl _) (.cells #[.string (gt d.add j).key,.int .i64 (gt d.add j).window,.string (gt d.add j).part,.int .i64 (gt d.add j).first,.int .i64 (gt d.add j).last,.int .i64 (gt d.add j).rows,.int .i64 (gt d.add j).size,.int .u32 (gt d.add j).sum,.int .i64 (gt d.add j).born] 85))
   have HBL:Hid (∀ W,Below (wo.heap.size+1) (wo.alloc (.cells #[.string (gt d.add j).key,.int .i64 (gt d.add j).window,.string (gt d.add j).part,.int .i64 (gt d.add j).first,.int .i64 (gt d.add j).last,.int .i64 (gt d.add j).rows,.int .i64 (gt d.add j).size,.int .u32 (gt d.add j).sum,.int .i64 (gt d.add j).born] 85)) W→W.cell? ⟨wo.heap.size,0,none⟩=some (.string (gt d.add j).key)∧W.cell? ⟨wo.heap.size,1,none⟩=some (.int .i64 (gt d.add j).window)∧W.cell? ⟨wo.heap.size,2,none⟩=some (.string (gt d.add j).part)∧W.cell? ⟨wo.heap.size,3,none⟩=some (.int .i64 (gt d.add j).first)∧W.cell? ⟨wo.heap.size,4,none⟩=some (.int .i64 (gt d.add j).last)∧W.cell? ⟨wo.heap.size,5,none⟩=some (.int .i64 (gt d.add j).rows)∧W.cell? ⟨wo.heap.size,6,none⟩=some (.int .i64 (gt d.add j).size)∧W.cell? ⟨wo.heap.size,7,none⟩=some (.int .u32 (gt d.add j).sum)∧W.cell? ⟨wo.heap.size,8,none⟩=some (.int .i64 (gt d.add j).born)):=Jh fun W hW=>by
    have hb:=(Blk.new wo 85 #[.string (gt d.add j).key,.int .i64 (gt d.add j).window,.string (gt d.add j).part,.int .i64 (gt d.add j).first,.int .i64 (gt d.add j).last,.int .i64 (gt d.add j).rows,.int .i64 (gt d.add j).size,.int .u32 (gt d.add j).sum,.int .i64 (gt d.add j).born]).below hW (Nat.lt_succ_self _)
    exact ⟨hb.cell 0,hb.cell 1,hb.cell 2,hb.cell 3,hb.cell 4,hb.cell 5,hb.cell 6,hb.cell 7,hb.cell 8⟩
   have hX:=HX.out (gt d.add j) (gt_mem hlt)
   have HNo1:Hid (enB (gt d.add j)=false→out=false):=Jh fun hh=>by rw [HD.out,all_no hlt hh];rfl
   have HNo2:Hid (∀ k,k<j→(gt d.add k).key=(gt d.add j).key→out=false):=Jh fun k hk hh=>by
    rw [HD.out]
    have:=nd_no (key:=En.key) hlt hk hh
    rw [dcf (show ¬ (keys d.add).Nodup from this)]
    simp
   have HSt:=Jh (fun h1 h2=>nd_step HA.out h1 h2)
   clear hr HA
   generalize hxx:gt d.add j=x at *
   cases hx:enB x
   ·rw [hx] at hX
    have HX3:=Jh hX
    have HV:=Jh (HNo1.out hx)
    clear hX hx
    go_wp2_with (go_at_call 37;refine (HX3.out _).mono ?_;rintro e w3 ⟨rfl,hb3⟩)
    go_ret
    exact ⟨by rw [HV.out];rfl,hb00.trans ((HB1.out.trans (hb3.mono (by simp))).mono hb00.size)⟩
   ·rw [hx] at hX
    have HX3:=Jh hX
    clear hX
    go_wp2_with (go_at_call 37;refine (HX3.out _).mono ?_;rintro e w3 ⟨rfl,hb3⟩)
    have HW3:Hid (Below (wo.heap.size+1) (wo.alloc (.cells #[.string x.key,.int .i64 x.window,.string x.part,.int .i64 x.first,.int .i64 x.last,.int .i64 x.rows,.int .i64 x.size,.int .u32 x.sum,.int .i64 x.born] 85)) w3):=Jh (hb3.mono (by simp))
    clear hb3
    go_loopw [5] (fun i wr=>∃ k:Nat,k≤j∧i=.int .i64 (k:Int)∧Hid (∀ i,i<k→(gt d.add i).key≠x.key)∧Hid (Below (wo.heap.size+1) (wo.alloc (.cells #[.string x.key,.int .i64 x.window,.string x.part,.int .i64 x.first,.int .i64 x.last,.int .i64 x.rows,.int .i64 x.size,.int .u32 x.sum,.int .i64 x.born] 85)) wr)) (fun i _=>j-(intOf i).toNat)
    case atStart=>exact ⟨0,Nat.zero_le _,rfl,Jh (fun i hi=>absurd hi (Nat.not_lt_zero i)),HW3⟩
    case round =>
     clear HW3
     obtain ⟨k,hk,rfl,HF,HW3⟩:=hrel
     by_cases hlk:k<j
     ·have hbw:=HB1.out.trans (HW3.out.mono (by omega))
      obtain ⟨-,q1,-,-,-,-,-,-⟩:=HK.out _ (HW1.out.trans (hbw.mono hsz))
      obtain ⟨q0,-⟩:=HK.out _ (HW1.out.trans (hbw.mono hsz))
      obtain ⟨r0,-⟩:=HG.out wr hbw k (by omega)
      obtain ⟨s0,-⟩:=HBL.out wr HW3.out
      have k0:(0:Int)≤(k:Int):=by omega
      have k9:(k:Int)<(d.add.length:Int):=by omega
      have HNo3:=Jh (HNo2.out k hlk)
      have HN3:Hid ((gt d.add k).key≠x.key→∀ i,i<k+1→(gt d.add i).key≠x.key):=Jh fun hh i hi=>by
       rcases Nat.lt_or_ge i k with h1|h1
       ·exact HF.out i h1
       ·obtain rfl:i=k:=by omega
        exact hh
      clear HF
      generalize (gt d.add k).key=y at *
      by_cases hy:y=x.key
      ·have t0:(y.toList == x.key.toList)=true:=by rw [bytes_beq];exact dct hy
       have HV:=Jh (HNo3.out hy)
       have HE:Hid (Below w.heap.size w wr):=Jh (HB0.out _ (HW1.out.trans (hbw.mono hsz))).1
       clear hy
       go_wp2_with fail
       go_quiet (fail)
       go_wp2
       go_ret
       exact ⟨by rw [HV.out];rfl,below_drewN_ HE.out _⟩
      ·have t0:(y.toList == x.key.toList)=false:=by rw [bytes_beq];exact dcf hy
       have HN4:=Jh (HN3.out hy)
       clear hy
       go_wp2_with fail
       go_quiet (fail)
       go_wp2
       go_roundw
       case rel=>exact ⟨k+1,by omega,by go_num,HN4,Jh (below_drewN_ HW3.out _)⟩
       case measure=>simp [intOf];omega
     ·obtain rfl:k=j:=by omega
      have HS:=Jh (HSt.out hx HF.out)
      have HW4:Hid (Below (w.heap.size+1) wm wr):=Jh (HW1.out.trans ((HB1.out.trans (HW3.out.mono (by omega))).mono hsz))
      go_wp2
      go_roundw
      case rel=>exact ⟨k+1,by omega,by go_num,HS,HW4⟩
      case measure=>simp [intOf];omega
  ·obtain rfl:j=d.add.length:=by omega
   have HD2:Hid (out=(d.drop.all keyB&&decide d.drop.Nodup&&risB mkB ltP d.marks&&numB d.cut 0&&numB d.fence 0&&owB d.by_)):=Jh (by
    have h:=nd_all (key:=En.key) HA.out
    rw [HD.out,h.1,dct (show (keys d.add).Nodup from h.2)]
    cases d.drop.all keyB<;>rfl)
   obtain ⟨s0,s1,s2,s3,s4,s5,s6,s7⟩:=HK.out _ HW1.out
   clear HD HA HX HRA
   go_wp2
   go_loopw [39] (fun i wr=>∃ j:Nat,j≤d.drop.length∧i=.int .i64 (j:Int)∧Hid (NdP keyB id d.drop j)∧Hid (Below (w.heap.size+1) wm wr)) (fun i _=>d.drop.length-(intOf i).toNat)
   case atStart=>exact ⟨0,Nat.zero_le _,rfl,Jh (fun i hi=>absurd hi (Nat.not_lt_zero i)),HW1⟩
   case round =>
    clear HW1 s0 s1 s2 s3 s4 s5 s6 s7
    obtain ⟨j,hj,rfl,HA,HW1⟩:=hrel
    obtain ⟨wi,rfl⟩:∃ wi:World,wi=wr:=⟨_,rfl⟩
    by_cases hlt:j<d.drop.length
    ·obtain ⟨hb00,hsz⟩:=HB0.out wi HW1.out
     have hr:=HRD.out wi hb00
     obtain ⟨b,off,rfl,hbB⟩:=row_addr hr (by omega)
     have p0:=strs_cell hr hlt
     obtain ⟨t0,t1,t2,t3,t4,t5,t6,t7⟩:=HK.out _ HW1.out
     have i0:(0:Int)≤(j:Int):=by omega
     have i9:(j:Int)≤(cD:Int):=by omega
     have HX2:=Jh (fun W=>keyR_calls (gt d.drop j) W (HDs.out _ (gt_mem hlt)))
     have HHas:Hid (Calls Tryz.prog 56 #[.slice (some ⟨b,off,none⟩) j cD,.string (gt d.drop j)] wi fun e w'=>e=.returned (.bool (hasB (d.drop.take j) (gt d.drop j)))∧w'=wi):=Jh (by
      have h2:=hr.take (k:=j) (by omega)
      rw [Nat.mul_one,← List.map_take] at h2
      have hl:(d.drop.take j).length=j:=by rw [List.length_take];omega
      have:=has_calls wi (c:=cD) (l:=d.drop.take j) (gt d.drop j) (by rw [hl];exact h2) (by rw [hl];omega)
      rw [hl] at this
      exact this)
     have HNo1:Hid (keyB (gt d.drop j)=false→out=false):=Jh fun hh=>by rw [HD2.out,all_no hlt hh];rfl
     have HNo2:Hid (hasB (d.drop.take j) (gt d.drop j)=true→out=false):=Jh fun hh=>by
      obtain ⟨k,hk,he⟩:=mem_gt (has_mem.1 hh)
      have hkj:k<j:=by rw [List.length_take] at hk;omega
      rw [gt_take hkj (by omega)] at he
      have:=nd_no (key:=id) hlt hkj he
      rw [List.map_id] at this
      rw [HD2.out,dcf this]
      simp
     have HSt:Hid (keyB (gt d.drop j)=true→hasB (d.drop.take j) (gt d.drop j)=false→NdP keyB id d.drop (j+1)):=Jh fun h1 h2=>nd_step HA.out h1 fun k hk he=>by
      have hm:gt d.drop j∈d.drop.take j:=by
       have he':gt d.drop k=gt d.drop j:=he
       rw [← he',← gt_take hk (by omega)]
       exact gt_mem (by rw [List.length_take];omega)
      rw [has_mem.2 hm] at h2
      cases h2
     clear hr HA
     generalize hasB (d.drop.take j) (gt d.drop j)=hb at *
     generalize gt d.drop j=x at *
     cases hx:keyB x
     ·have HV:=Jh (HNo1.out hx)
      rw [hx] at HX2
      clear hx
      go_wp2_with (go_at_call 45;refine (HX2.out _).mono ?_;rintro e w3 ⟨rfl,rfl⟩)
      go_ret
      exact ⟨by rw [HV.out];rfl,hb00⟩
     ·rw [hx] at HX2
      cases hh:hb
      ·have HS:=Jh (HSt.out hx hh)
       rw [hh] at HHas
       clear hx hh
       go_wp2_with first|(go_at_call 45;refine (HX2.out _).mono ?_;rintro e w3 ⟨rfl,rfl⟩)|(go_at_call 56;refine HHas.out.mono ?_;rintro e w4 ⟨rfl,rfl⟩)
       go_roundw
       case rel=>exact ⟨j+1,by omega,by go_num,HS,HW1⟩
       case measure=>simp [intOf];omega
      ·have HV:=Jh (HNo2.out hh)
       rw [hh] at HHas
       clear hx hh
       go_wp2_with first|(go_at_call 45;refine (HX2.out _).mono ?_;rintro e w3 ⟨rfl,rfl⟩)|(go_at_call 56;refine HHas.out.mono ?_;rintro e w4 ⟨rfl,rfl⟩)
       go_ret
       exact ⟨by rw [HV.out];rfl,hb00⟩
    ·obtain rfl:j=d.drop.length:=by omega
     have HD3:Hid (out=(risB mkB ltP d.marks&&numB d.cut 0&&numB d.fence 0&&owB d.by_)):=Jh (by
      have h:=nd_all (key:=id) HA.out
      rw [List.map_id] at h
      rw [HD2.out,h.1,dct h.2]
      rfl)
     obtain ⟨s0,s1,s2,s3,s4,s5,s6,s7⟩:=HK.out _ HW1.out
     clear HD2 HA HRD HDs
     go_wp2
     go_loopw [59] (fun i wr=>∃ j:Nat,j≤d.marks.length∧i=.int .i64 (j:Int)∧Hid (∀ i,i<j→mkB (gt d.marks i)=true∧(0<i→ltP (gt d.marks (i-1)) (gt d.marks i)=true))∧Hid (Below (w.heap.size+1) wm wr)) (fun i _=>d.marks.length-(intOf i).toNat)
     case atStart=>exact ⟨0,Nat.zero_le _,rfl,Jh (fun i hi=>absurd hi (Nat.not_lt_zero i)),HW1⟩
     case round =>
      clear HW1 s0 s1 s2 s3 s4 s5 s6 s7
      obtain ⟨k,hk,rfl,hall,HW1⟩:=hrel
      by_cases hlt:k<d.marks.length
      ·obtain ⟨hb00,hsz⟩:=HB0.out wr HW1.out
       have hr:=HRM.out wr hb00
       obtain ⟨b,off,rfl,hbB⟩:=row_addr hr (by omega)
       have HKW:=Jh fun W (hW:Below wr.heap.size wr W)=>HK.out W (HW1.out.trans (hW.mono hsz))
       have HG:Hid (∀ W,Below wr.heap.size wr W→∀ i,i<d.marks.length→W.cell? ⟨b,off+i*2,none⟩=some (.int .i64 (gt d.marks i).maker)∧W.cell? ⟨b,off+i*2+1,none⟩=some (.int .i64 (gt d.marks i).seq)):=Jh fun W hW i hi=>⟨row_cell mcs_len (hr.below (hW.mono (by omega))) hi (j:=0) rfl,row_cell mcs_len (hr.below (hW.mono (by omega))) hi (j:=1) rfl⟩
       obtain ⟨p0,p1⟩:=HG.out wr (Below.refl _ _) k hlt
       have HB1:=Jh ((Below.refl wr.heap.size wr).alloc (Nat.le_refl _) (.cells #[.int .i64 (gt d.marks k).maker,.int .i64 (gt d.marks k).seq] 90))
       have HR2:=Jh fun W=>markR_calls (gt d.marks k) W
       have HBL:Hid (∀ W,Below (wr.heap.size+1) (wr.alloc (.cells #[.int .i64 (gt d.marks k).maker,.int .i64 (gt d.marks k).seq] 90)) W→(W.cell? ⟨wr.heap.size,0,none⟩=some (.int .i64 (gt d.marks k).maker)∧W.cell? ⟨wr.heap.size,1,none⟩=some (.int .i64 (gt d.marks k).seq))∧W.cell? ⟨w.heap.size,2,none⟩=some (.slice (some ⟨b,off,none⟩) d.marks.length cM)):=Jh fun W hW=>by
        have hb:=(Blk.new wr 90 #[.int .i64 (gt d.marks k).maker,.int .i64 (gt d.marks k).seq]).below hW (Nat.lt_succ_self _)
        have hq:=HKW.out W (HB1.out.trans (hW.mono (by omega)))
        exact ⟨⟨hb.cell 0,hb.cell 1⟩,hq.2.2.1⟩
       have Hno1:=Jh (fun hh=>ris_no1 (r:=mkB) (lt:=ltP) hlt hh)
       have Hno2:=Jh (fun hp hh=>ris_no2 (r:=mkB) (lt:=ltP) hlt hp hh)
       have Hst:=Jh (fun h1 h2=>ris_step (r:=mkB) (lt:=ltP) hall.out h1 h2)
       have Hpr:=Jh (fun (hp:0<k)=>(hall.out (k-1) (by omega)).1)
       have HP:=Jh fun W hW (hp:0<k)=>HG.out W hW (k-1) (by omega)
       have HHD:=Jh (fun (h:risB mkB ltP d.marks=false)=>show out=false by rw [HD3.out,h];rfl)
       clear hr HG hall HD3 HRM HK HKW hb00
       generalize gt d.marks k=x at *
       generalize gt d.marks (k-1)=y at *
       have n1:IntKind.i64.wrap ((k:Int)-1)=(k:Int)-1:=IntWalk.i64_in _ (by omega)
       cases hx:mkB x
       ·have HV:=Jh (HHD.out (Hno1.out hx))
        rw [hx] at HR2
        clear hx Hno1 Hno2 Hst HP HHD Hpr
        go_wp2_with fail
        refine wp_region_T 99 (fun w'=>(w'.cell? ⟨wr.heap.size,0,none⟩=some (.int .i64 x.maker)∧w'.cell? ⟨wr.heap.size,1,none⟩=some (.int .i64 x.seq))∧w'.cell? ⟨w.heap.size,2,none⟩=some (.slice (some ⟨b,off,none⟩) d.marks.length cM)) (by kernel_rfl) (HBL.out _ (below_drewN_ (Below.refl _ _) 1)) (fun hHeld=>?_)
        apply tkT 0
        refine wpAnyT_one (i:=1) (by kernel_rfl) rfl (fun K hK=>?_);go_simp
        refine (HR2.out _).mono ?_
        rintro e wa ⟨rfl,hba⟩
        have hea0:Below (wr.heap.size+1) (wr.alloc (.cells #[.int .i64 x.maker,.int .i64 x.seq] 90)) wa:=(below_drewN_ (Below.refl _ _) 1).trans (hba.mono (by simp [World.drew]))
        have hew:Below (w.heap.size+1) wm wa:=HW1.out.trans ((HB1.out.trans (hea0.mono (by omega))).mono hsz)
        have hHa:=HBL.out _ hea0
        refine hK.out _ _ (fun _=>hHa) ?_
        clear hK K hHeld hba
        apply tkT 2
        apply tkT 3
        apply tuT 4
        apply tuT 5
        apply tuT 6
        apply tuT 7
        apply tuT 8
        apply tuT 9
        apply tuT 10
        apply tuT 11
        apply tuT 12
        apply tuT 13
        apply tuT 14
        apply tuT 15
        apply tuT 16
        apply tuT 17
        apply tuT 18
        apply tuT 19
        apply tuT 20
        apply tuT 21
        apply tuT 22
        apply tuT 23
        apply tuT 24
        apply tuT 25
        apply tuT 26
        apply tuT 27
        apply tuT 28
        apply tuT 29
        apply tuT 30
        apply tuT 31
        apply tuT 32
        apply tuT 33
        apply tuT 34
        apply tuT 35
        apply tuT 36
        apply tuT 37
        apply tuT 38
        apply tuT 39
        apply tuT 40
        apply tuT 41
        apply tkT 42
        refine wpAnyT_done (by kernel_rfl) ?_ _
        go_wp2
        go_ret
        exact ⟨by rw [HV.out];rfl,(HB0.out _ hew).1⟩
       rw [hx] at HR2
       by_cases hp:0<k
       ·have dk:decide ((0:Int)<(k:Int))=true:=dct (by omega)
        have k0:(0:Int)≤(k:Int)-1:=by omega
        have k9:(k:Int)-1<(d.marks.length:Int):=by omega
        have k1:(1:Int)≤(k:Int):=by omega
        have k2:¬ (k:Int)<1:=by omega
        have e1:((k:Int)-1).toNat=k-1:=by omega
        have HP2:Hid (∀ W,Below (wr.heap.size+1) (wr.alloc (.cells #[.int .i64 x.maker,.int .i64 x.seq] 90)) W→((W.cell? ⟨wr.heap.size,0,none⟩=some (.int .i64 x.maker)∧W.cell? ⟨wr.heap.size,1,none⟩=some (.int .i64 x.seq))∧W.cell? ⟨w.heap.size,2,none⟩=some (.slice (some ⟨b,off,none⟩) d.marks.length cM))∧W.cell? ⟨b,off+(k-1)*2,none⟩=some (.int .i64 y.maker)∧W.cell? ⟨b,off+(k-1)*2+1,none⟩=some (.int .i64 y.seq)):=Jh fun W hW=>⟨HBL.out W hW,HP.out W (HB1.out.trans (hW.mono (by omega))) hp⟩
        have HL:=Jh (ltP_mk (Hpr.out hp) hx)
        by_cases c1:x.maker<y.maker
        ·have t1:decide (x.maker<y.maker)=true:=dct c1
         have HV:=Jh (HHD.out (Hno2.out hp (by rw [HL.out,dcf (show ¬ y.maker<x.maker by omega),dcf (show ¬ y.maker=x.maker by omega)];rfl)))
         clear hx Hno1 Hno2 Hst HP HBL HHD Hpr HL c1
         go_wp2_with fail
         refine wp_region_T 99 (fun w'=>((w'.cell? ⟨wr.heap.size,0,none⟩=some (.int .i64 x.maker)∧w'.cell? ⟨wr.heap.size,1,none⟩=some (.int .i64 x.seq))∧w'.cell? ⟨w.heap.size,2,none⟩=some (.slice (some ⟨b,off,none⟩) d.marks.length cM))∧w'.cell? ⟨b,off+(k-1)*2,none⟩=some (.int .i64 y.maker)∧w'.cell? ⟨b,off+(k-1)*2+1,none⟩=some (.int .i64 y.seq)) (by kernel_rfl) (HP2.out _ (below_drewN_ (Below.refl _ _) 1)) (fun hHeld=>?_)
         apply tkT 0
         refine wpAnyT_one (i:=1) (by kernel_rfl) rfl (fun K hK=>?_);go_simp
         refine (HR2.out _).mono ?_
         rintro e wa ⟨rfl,hba⟩
         have hea0:Below (wr.heap.size+1) (wr.alloc (.cells #[.int .i64 x.maker,.int .i64 x.seq] 90)) wa:=(below_drewN_ (Below.refl _ _) 1).trans (hba.mono (by simp [World.drew]))
         have hew:Below (w.heap.size+1) wm wa:=HW1.out.trans ((HB1.out.trans (hea0.mono (by omega))).mono hsz)
         have hHa:=HP2.out _ hea0
         refine hK.out _ _ (fun _=>hHa) ?_
         clear hK K hHeld hba
         apply tkT 2
         apply tkT 3
         apply tkT 4
         apply tkT 5
         apply tkT 6
         apply tkT 7
         apply tkT 8
         apply tkT 9
         apply tkT 10
         apply tkT (v:=.pointer (some ⟨b,off+(k-1)*2,none⟩)) 11
         apply tkT 12
         apply tkT 13
         apply tkT 14
         apply tkT 15
         apply tkT 16
         apply tkT 17
         apply tuT 18
         apply tuT 19
         apply tuT 20
         apply tuT 21
         apply tuT 22
         apply tuT 23
         apply tuT 24
         apply tuT 25
         apply tuT 26
         apply tuT 27
         apply tuT 28
         apply tuT 29
         apply tuT 30
         apply tuT 31
         apply tuT 32
         apply tuT 33
         apply tuT 34
         apply tuT 35
         apply tuT 36
         apply tuT 37
         apply tuT 38
         apply tuT 39
         apply tkT 40
         apply tkT 41
         apply tkT 42
         refine wpAnyT_done (by kernel_rfl) ?_ _
         go_wp2
         go_ret
         exact ⟨by rw [HV.out];rfl,(HB0.out _ hew).1⟩
        have t1:decide (x.maker<y.maker)=false:=dcf c1
        by_cases c2:y.maker=x.maker
        ·have t2:(y.maker == x.maker)=true:=eqt c2
         by_cases c3:x.seq≤y.seq
         ·have t3:decide (x.seq≤y.seq)=true:=dct c3
          have HV:=Jh (HHD.out (Hno2.out hp (by rw [HL.out,dcf (show ¬ y.maker<x.maker by omega),dcf (show ¬ y.seq<x.seq by omega),Bool.and_false];rfl)))
          clear hx Hno1 Hno2 Hst HP HBL HHD Hpr HL c1 c2 c3
          go_wp2_with fail
          refine wp_region_T 99 (fun w'=>((w'.cell? ⟨wr.heap.size,0,none⟩=some (.int .i64 x.maker)∧w'.cell? ⟨wr.heap.size,1,none⟩=some (.int .i64 x.seq))∧w'.cell? ⟨w.heap.size,2,none⟩=some (.slice (some ⟨b,off,none⟩) d.marks.length cM))∧w'.cell? ⟨b,off+(k-1)*2,none⟩=some (.int .i64 y.maker)∧w'.cell? ⟨b,off+(k-1)*2+1,none⟩=some (.int .i64 y.seq)) (by kernel_rfl) (HP2.out _ (below_drewN_ (Below.refl _ _) 1)) (fun hHeld=>?_)
          apply tkT 0
          refine wpAnyT_one (i:=1) (by kernel_rfl) rfl (fun K hK=>?_);go_simp
          refine (HR2.out _).mono ?_
          rintro e wa ⟨rfl,hba⟩
          have hea0:Below (wr.heap.size+1) (wr.alloc (.cells #[.int .i64 x.maker,.int .i64 x.seq] 90)) wa:=(below_drewN_ (Below.refl _ _) 1).trans (hba.mono (by simp [World.drew]))
          have hew:Below (w.heap.size+1) wm wa:=HW1.out.trans ((HB1.out.trans (hea0.mono (by omega))).mono hsz)
          have hHa:=HP2.out _ hea0
          refine hK.out _ _ (fun _=>hHa) ?_
          clear hK K hHeld hba
          apply tkT 2
          apply tkT 3
          apply tkT 4
          apply tkT 5
          apply tkT 6
          apply tkT 7
          apply tkT 8
          apply tkT 9
          apply tkT 10
          apply tkT (v:=.pointer (some ⟨b,off+(k-1)*2,none⟩)) 11
          apply tkT 12
          apply tkT 13
          apply tkT 14
          apply tkT 15
          apply tkT 16
          apply tkT 17
          apply tkT 18
          apply tkT 19
          apply tkT 20
          apply tkT 21
          apply tkT (v:=.pointer (some ⟨b,off+(k-1)*2,none⟩)) 22
          apply tkT 23
          apply tkT 24
          apply tkT 25
          apply tkT 26
          apply tkT 27
          apply tkT 28
          apply tkT 29
          apply tkT 30
          apply tkT 31
          apply tkT 32
          apply tkT (v:=.pointer (some ⟨b,off+(k-1)*2,none⟩)) 33
          apply tkT 34
          apply tkT 35
          apply tkT 36
          apply tkT 37
          apply tkT 38
          apply tkT 39
          apply tkT 40
          apply tkT 41
          apply tkT 42
          refine wpAnyT_done (by kernel_rfl) ?_ _
          go_wp2
          go_ret
          exact ⟨by rw [HV.out];rfl,(HB0.out _ hew).1⟩
         have t3:decide (x.seq≤y.seq)=false:=dcf c3
         have HS:=Jh (Hst.out hx (fun _=>by rw [HL.out,dct c2,dct (show y.seq<x.seq by omega),Bool.true_and,Bool.or_true]))
         clear hx Hno1 Hno2 Hst HP HBL HHD Hpr HL c1 c2 c3
         go_wp2_with fail
         refine wp_region_T 99 (fun w'=>((w'.cell? ⟨wr.heap.size,0,none⟩=some (.int .i64 x.maker)∧w'.cell? ⟨wr.heap.size,1,none⟩=some (.int .i64 x.seq))∧w'.cell? ⟨w.heap.size,2,none⟩=some (.slice (some ⟨b,off,none⟩) d.marks.length cM))∧w'.cell? ⟨b,off+(k-1)*2,none⟩=some (.int .i64 y.maker)∧w'.cell? ⟨b,off+(k-1)*2+1,none⟩=some (.int .i64 y.seq)) (by kernel_rfl) (HP2.out _ (below_drewN_ (Below.refl _ _) 1)) (fun hHeld=>?_)
         apply tkT 0
         refine wpAnyT_one (i:=1) (by kernel_rfl) rfl (fun K hK=>?_);go_simp
         refine (HR2.out _).mono ?_
         rintro e wa ⟨rfl,hba⟩
         have hea0:Below (wr.heap.size+1) (wr.alloc (.cells #[.int .i64 x.maker,.int .i64 x.seq] 90)) wa:=(below_drewN_ (Below.refl _ _) 1).trans (hba.mono (by simp [World.drew]))
         have hew:Below (w.heap.size+1) wm wa:=HW1.out.trans ((HB1.out.trans (hea0.mono (by omega))).mono hsz)
         have hHa:=HP2.out _ hea0
         refine hK.out _ _ (fun _=>hHa) ?_
         clear hK K hHeld hba
         apply tkT 2
         apply tkT 3
         apply tkT 4
         apply tkT 5
         apply tkT 6
         apply tkT 7
         apply tkT 8
         apply tkT 9
         apply tkT 10
         apply tkT (v:=.pointer (some ⟨b,off+(k-1)*2,none⟩)) 11
         apply tkT 12
         apply tkT 13
         apply tkT 14
         apply tkT 15
         apply tkT 16
         apply tkT 17
         apply tkT 18
         apply tkT 19
         apply tkT 20
         apply tkT 21
         apply tkT (v:=.pointer (some ⟨b,off+(k-1)*2,none⟩)) 22
         apply tkT 23
         apply tkT 24
         apply tkT 25
         apply tkT 26
         apply tkT 27
         apply tkT 28
         apply tkT 29
         apply tkT 30
         apply tkT 31
         apply tkT 32
         apply tkT (v:=.pointer (some ⟨b,off+(k-1)*2,none⟩)) 33
         apply tkT 34
         apply tkT 35
         apply tkT 36
         apply tkT 37
         apply tkT 38
         apply tkT 39
         apply tkT 40
         apply tkT 41
         apply tkT 42
         refine wpAnyT_done (by kernel_rfl) ?_ _
         go_wp2
         go_roundw
         case rel=>exact ⟨k+1,by omega,by go_num,HS,Jh hew⟩
         case measure=>simp [intOf];omega
        have t2:(y.maker == x.maker)=false:=eqf c2
        have HS:=Jh (Hst.out hx (fun _=>by rw [HL.out,dct (show y.maker<x.maker by omega),Bool.true_or]))
        clear hx Hno1 Hno2 Hst HP HBL HHD Hpr HL c1 c2
        go_wp2_with fail
        refine wp_region_T 99 (fun w'=>((w'.cell? ⟨wr.heap.size,0,none⟩=some (.int .i64 x.maker)∧w'.cell? ⟨wr.heap.size,1,none⟩=some (.int .i64 x.seq))∧w'.cell? ⟨w.heap.size,2,none⟩=some (.slice (some ⟨b,off,none⟩) d.marks.length cM))∧w'.cell? ⟨b,off+(k-1)*2,none⟩=some (.int .i64 y.maker)∧w'.cell? ⟨b,off+(k-1)*2+1,none⟩=some (.int .i64 y.seq)) (by kernel_rfl) (HP2.out _ (below_drewN_ (Below.refl _ _) 1)) (fun hHeld=>?_)
        apply tkT 0
        refine wpAnyT_one (i:=1) (by kernel_rfl) rfl (fun K hK=>?_);go_simp
        refine (HR2.out _).mono ?_
        rintro e wa ⟨rfl,hba⟩
        have hea0:Below (wr.heap.size+1) (wr.alloc (.cells #[.int .i64 x.maker,.int .i64 x.seq] 90)) wa:=(below_drewN_ (Below.refl _ _) 1).trans (hba.mono (by simp [World.drew]))
        have hew:Below (w.heap.size+1) wm wa:=HW1.out.trans ((HB1.out.trans (hea0.mono (by omega))).mono hsz)
        have hHa:=HP2.out _ hea0
        refine hK.out _ _ (fun _=>hHa) ?_
        clear hK K hHeld hba
        apply tkT 2
        apply tkT 3
        apply tkT 4
        apply tkT 5
        apply tkT 6
        apply tkT 7
        apply tkT 8
        apply tkT 9
        apply tkT 10
        apply tkT (v:=.pointer (some ⟨b,off+(k-1)*2,none⟩)) 11
        apply tkT 12
        apply tkT 13
        apply tkT 14
        apply tkT 15
        apply tkT 16
        apply tkT 17
        apply tkT 18
        apply tkT 19
        apply tkT 20
        apply tkT 21
        apply tkT (v:=.pointer (some ⟨b,off+(k-1)*2,none⟩)) 22
        apply tkT 23
        apply tkT 24
        apply tkT 25
        apply tkT 26
        apply tkT 27
        apply tkT 28
        apply tuT 29
        apply tuT 30
        apply tuT 31
        apply tuT 32
        apply tuT 33
        apply tuT 34
        apply tuT 35
        apply tuT 36
        apply tuT 37
        apply tuT 38
        apply tkT 39
        apply tkT 40
        apply tkT 41
        apply tkT 42
        refine wpAnyT_done (by kernel_rfl) ?_ _
        go_wp2
        go_roundw
        case rel=>exact ⟨k+1,by omega,by go_num,HS,Jh hew⟩
        case measure=>simp [intOf];omega
       have dk:decide ((0:Int)<(k:Int))=false:=dcf (by omega)
       have HS:=Jh (Hst.out hx (fun h=>absurd h hp))
       clear hx Hno1 Hno2 Hst HP HHD Hpr
       go_wp2_with fail
       refine wp_region_T 99 (fun w'=>(w'.cell? ⟨wr.heap.size,0,none⟩=some (.int .i64 x.maker)∧w'.cell? ⟨wr.heap.size,1,none⟩=some (.int .i64 x.seq))∧w'.cell? ⟨w.heap.size,2,none⟩=some (.slice (some ⟨b,off,none⟩) d.marks.length cM)) (by kernel_rfl) (HBL.out _ (below_drewN_ (Below.refl _ _) 1)) (fun hHeld=>?_)
       apply tkT 0
       refine wpAnyT_one (i:=1) (by kernel_rfl) rfl (fun K hK=>?_);go_simp
       refine (HR2.out _).mono ?_
       rintro e wa ⟨rfl,hba⟩
       have hea0:Below (wr.heap.size+1) (wr.alloc (.cells #[.int .i64 x.maker,.int .i64 x.seq] 90)) wa:=(below_drewN_ (Below.refl _ _) 1).trans (hba.mono (by simp [World.drew]))
       have hew:Below (w.heap.size+1) wm wa:=HW1.out.trans ((HB1.out.trans (hea0.mono (by omega))).mono hsz)
       have hHa:=HBL.out _ hea0
       refine hK.out _ _ (fun _=>hHa) ?_
       clear hK K hHeld hba
       apply tkT 2
       apply tkT 3
       apply tkT 4
       apply tkT 5
       apply tkT 6
       apply tuT 7
       apply tuT 8
       apply tuT 9
       apply tuT 10
       apply tuT 11
       apply tuT 12
       apply tuT 13
       apply tuT 14
       apply tuT 15
       apply tuT 16
       apply tuT 17
       apply tuT 18
       apply tuT 19
       apply tuT 20
       apply tuT 21
       apply tuT 22
       apply tuT 23
       apply tuT 24
       apply tuT 25
       apply tuT 26
       apply tuT 27
       apply tuT 28
       apply tuT 29
       apply tuT 30
       apply tuT 31
       apply tuT 32
       apply tuT 33
       apply tuT 34
       apply tuT 35
       apply tuT 36
       apply tuT 37
       apply tuT 38
       apply tuT 39
       apply tuT 40
       apply tkT 41
       apply tkT 42
       refine wpAnyT_done (by kernel_rfl) ?_ _
       go_wp2
       go_roundw
       case rel=>exact ⟨k+1,by omega,by go_num,HS,Jh hew⟩
       case measure=>simp [intOf];omega
      ·obtain rfl:k=d.marks.length:=by omega
       have HD4:Hid (out=(numB d.cut 0&&numB d.fence 0&&owB d.by_)):=Jh (by rw [HD3.out,ris_yes hall.out];rfl)
       obtain ⟨s0,s1,s2,s3,s4,s5,s6,s7⟩:=HK.out _ HW1.out
       have hb00:=(HB0.out _ HW1.out).1
       clear HD3 hall HRM
       by_cases e0:numB d.cut 0=true
       ·have te0:numB d.cut 0=true:=e0
        by_cases e1:numB d.fence 0=true
        ·have te1:numB d.fence 0=true:=e1
         have HV:Hid (out=owB d.by_):=Jh (by rw [HD4.out,te0,te1];rfl)
         clear HD4
         go_wp2_with first|(go_at_call 35;refine (HN.out _ _ _).mono ?_;rintro e w9 ⟨rfl,rfl⟩)|(go_at_call 38;refine (HW.out _).mono ?_;rintro e w4 ⟨rfl,hb4⟩)
         go_ret
         exact ⟨by rw [HV.out];rfl,hb00.trans (hb4.mono hb00.size)⟩
        ·have te1:numB d.fence 0=false:=by simpa using e1
         have HV:Hid (out=false):=Jh (by rw [HD4.out,te1];simp)
         clear HD4
         go_wp2_with first|(go_at_call 35;refine (HN.out _ _ _).mono ?_;rintro e w9 ⟨rfl,rfl⟩)|(go_at_call 38;refine (HW.out _).mono ?_;rintro e w4 ⟨rfl,hb4⟩)
         go_ret
         exact ⟨by rw [HV.out];rfl,hb00⟩
       ·have te0:numB d.cut 0=false:=by simpa using e0
        have HV:Hid (out=false):=Jh (by rw [HD4.out,te0];simp)
        clear HD4
        go_wp2_with first|(go_at_call 35;refine (HN.out _ _ _).mono ?_;rintro e w9 ⟨rfl,rfl⟩)|(go_at_call 38;refine (HW.out _).mono ?_;rintro e w4 ⟨rfl,hb4⟩)
        go_ret
        exact ⟨by rw [HV.out];rfl,hb00⟩
end Go.Proofs.YtibnehaibgbliaaGreat.Mf
