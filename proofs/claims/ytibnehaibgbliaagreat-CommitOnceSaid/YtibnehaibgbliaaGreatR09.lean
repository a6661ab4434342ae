/- Laws for the row's walk. -/
import Derived.Test.YtibnehaibgbliaaGreatR08
set_option linter.unusedVariables false
set_option linter.unusedSimpArgs false
open Go.Lib renaming hid → Jh
namespace Go.Proofs.YtibnehaibgbliaaGreat.Mf
open Go.RowKit Go.Proofs.YtibnehaibgbliaaGreat
noncomputable abbrev kS:KeyT Tryz.prog 9 ByteArray:=strT Tryz.underlying9
abbrev evT:Unit→Value:=fun _=>.bool true
theorem all_step {α:Type} [Inhabited α] {p:α→Bool} {l:List α} {k:Nat} (h:∀ i,i<k→p (gt l i)=true) (h1:p (gt l k)=true):∀ i,i<k+1→p (gt l i)=true:=by
 intro i hi
 rcases Nat.lt_or_ge i k with h3|h3
 ·exact h i h3
 ·obtain rfl:i=k:=by omega
  exact h1
theorem all_yes {α:Type} [Inhabited α] {p:α→Bool} {l:List α} (h:∀ i,i<l.length→p (gt l i)=true):l.all p=true:=by
 rw [List.all_eq_true]
 intro x hx
 obtain ⟨i,hi,rfl⟩:=mem_gt hx
 exact h i hi
theorem all_no {α:Type} [Inhabited α] {p:α→Bool} {l:List α} {k:Nat} (hk:k<l.length) (h:p (gt l k)=false):l.all p=false:=by
 rw [List.all_eq_false]
 exact ⟨_,gt_mem hk,by rw [h];decide⟩
theorem strs_cell {w:World} {B b off:Nat} {l:List ByteArray} (h:Reads w B 1 (some ⟨b,off,none⟩) l.length (l.map Value.string)) {i:Nat} (hi:i<l.length):w.cell? ⟨b,off+i,none⟩=some (.string (gt l i)):=by
 obtain ⟨b',off',e,_,hc⟩:=h.2 (by omega)
 injection e with e
 injection e with e1 e2
 subst e1 e2
 exact hc i _ (by rw [List.getElem?_map,gt_at hi];rfl)
set_option maxRecDepth 100000 in
set_option maxHeartbeats 3200000 in
theorem edit_calls (w:World) {B:Nat} {d:Ed} {p:Pd} (h:Edi w B d p) (hB:B≤w.heap.size) (hs:Short d.add) (hm:Sh w):Calls Tryz.prog 100 #[edV d p] w fun e w'=>e=.returned (.bool (editB d))∧Below w.heap.size w w':=by
 have HK:Hid (∀ W,Below (w.heap.size+1) (w.alloc (.cells #[.slice p.AA d.add.length p.cA,.slice p.AD d.drop.length p.cD,.slice p.AM d.marks.length p.cM,.int .i64 d.cut,.int .i64 d.fence,.int .i64 d.by_.agent,.int .i64 d.by_.life,.int .i64 d.by_.count] 28)) W→W.cell? ⟨w.heap.size,0,none⟩=some (.slice p.AA d.add.length p.cA)∧W.cell? ⟨w.heap.size,1,none⟩=some (.slice p.AD d.drop.length p.cD)∧W.cell? ⟨w.heap.size,2,none⟩=some (.slice p.AM d.marks.length p.cM)∧W.cell? ⟨w.heap.size,3,none⟩=some (.int .i64 d.cut)∧W.cell? ⟨w.heap.size,4,none⟩=some (.int .i64 d.fence)∧W.cell? ⟨w.heap.size,5,none⟩=some (.int .i64 d.by_.agent)∧W.cell? ⟨w.heap.size,6,none⟩=some (.int .i64 d.by_.life)∧W.cell? ⟨w.heap.size,7,none⟩=some (.int .i64 d.by_.count)):=Jh fun W hW=>by
  have hb:=(Blk.new w 28 #[.slice p.AA d.add.length p.cA,.slice p.AD d.drop.length p.cD,.slice p.AM d.marks.length p.cM,.int .i64 d.cut,.int .i64 d.fence,.int .i64 d.by_.agent,.int .i64 d.by_.life,.int .i64 d.by_.count]).below hW (Nat.lt_succ_self _)
  exact ⟨hb.cell 0,hb.cell 1,hb.cell 2,hb.cell 3,hb.cell 4,hb.cell 5,hb.cell 6,hb.cell 7⟩
 have HB0:Hid (∀ W,Below (w.heap.size+1) (w.alloc (.cells #[.slice p.AA d.add.length p.cA,.slice p.AD d.drop.length p.cD,.slice p.AM d.marks.length p.cM,.int .i64 d.cut,.int .i64 d.fence,.int .i64 d.by_.agent,.int .i64 d.by_.life,.int .i64 d.by_.count] 28)) W→Below w.heap.size w W∧w.heap.size+1≤W.heap.size):=Jh fun W hW=>⟨((Below.refl w.heap.size w).alloc (Nat.le_refl _) _).trans (hW.mono (by omega)),by have:=hW.size;rw [World.size_alloc] at this;exact this⟩
 have HRA:=Jh fun W (hW:Below w.heap.size w W)=>h.ra.below (hW.mono hB)
 have HRD:=Jh fun W (hW:Below w.heap.size w W)=>h.rd.below (hW.mono hB)
 have HM:=Jh fun W (hW:Below w.heap.size w W)=>risingP_calls W (c:=p.cM) (h.rm.below (hW.mono hB)) (by have:=hW.size;omega) h.lm
 have HX:=Jh fun x (hx:x∈d.add) W (hW:Below w.heap.size w W)=>entry_calls x W (h.ok x hx) (hs x hx) (hm.below hW hm.lt)
 have HKs:Hid (∀ x∈d.add,x.key.size≤maxLen):=Jh fun x hx=>Nat.le_trans (h.ok x hx).key (by unfold maxLen;omega)
 have HDs:Hid (∀ x∈d.drop,x.size≤140737488351232):=Jh fun x hx=>h.okd x hx
 have HN:=Jh num_calls
 have HW:=Jh (owner_calls d.by_)
 have HD:Hid (editB d=(d.add.all enB&&d.drop.all keyB&&decide (keys d.add).Nodup&&decide d.drop.Nodup&&risB mkB ltP d.marks&&numB d.cut 0&&numB d.fence 0&&owB d.by_)):=Jh rfl
 have HU:Hid (Tryz.prog.underlying 188=some (.map 9 4)):=Jh Tryz.underlying188
 have hla:=h.la
 have hld:=h.ld
 clear h hs hm
 generalize editB d=out at *
 have hmm:=@run_makeMap Tryz.prog
 obtain ⟨AA,cA,AD,cD,AM,cM⟩:=p
 dsimp only at *
 go_enter Tryz.func100,Tryz.ntmps100
 go_wp2
 have hW0:Hid (Below (w.heap.size+1) (w.alloc (.cells #[.slice AA d.add.length cA,.slice AD d.drop.length cD,.slice AM d.marks.length cM,.int .i64 d.cut,.int .i64 d.fence,.int .i64 d.by_.agent,.int .i64 d.by_.life,.int .i64 d.by_.count] 28)) (w.alloc (.cells #[.slice AA d.add.length cA,.slice AD d.drop.length cD,.slice AM d.marks.length cM,.int .i64 d.cut,.int .i64 d.fence,.int .i64 d.by_.agent,.int .i64 d.by_.life,.int .i64 d.by_.count] 28))):=Jh (Below.refl _ _)
 have HM1:Hid (MapAt kS evT ((w.alloc (.cells #[.slice AA d.add.length cA,.slice AD d.drop.length cD,.slice AM d.marks.length cM,.int .i64 d.cut,.int .i64 d.fence,.int .i64 d.by_.agent,.int .i64 d.by_.life,.int .i64 d.by_.count] 28)).alloc (.map #[] 0)) (w.heap.size+1) []):=Jh (by
  have:=MapAt.new kS evT (w.alloc (.cells #[.slice AA d.add.length cA,.slice AD d.drop.length cD,.slice AM d.marks.length cM,.int .i64 d.cut,.int .i64 d.fence,.int .i64 d.by_.agent,.int .i64 d.by_.life,.int .i64 d.by_.count] 28))
  rw [World.size_alloc] at this
  exact this)
 have HW1:Hid (Below (w.heap.size+1) (w.alloc (.cells #[.slice AA d.add.length cA,.slice AD d.drop.length cD,.slice AM d.marks.length cM,.int .i64 d.cut,.int .i64 d.fence,.int .i64 d.by_.agent,.int .i64 d.by_.life,.int .i64 d.by_.count] 28)) ((w.alloc (.cells #[.slice AA d.add.length cA,.slice AD d.drop.length cD,.slice AM d.marks.length cM,.int .i64 d.cut,.int .i64 d.fence,.int .i64 d.by_.agent,.int .i64 d.by_.life,.int .i64 d.by_.count] 28)).alloc (.map #[] 0))):=Jh (hW0.out.alloc (by simp) _)
 have hz1:w.heap.size+2≤((w.alloc (.cells #[.slice AA d.add.length cA,.slice AD d.drop.length cD,.slice AM d.marks.length cM,.int .i64 d.cut,.int .i64 d.fence,.int .i64 d.by_.agent,.int .i64 d.by_.life,.int .i64 d.by_.count] 28)).alloc (.map #[] 0)).heap.size:=by simp
 clear hW0
 generalize (w.alloc (.cells #[.slice AA d.add.length cA,.slice AD d.drop.length cD,.slice AM d.marks.length cM,.int .i64 d.cut,.int .i64 d.fence,.int .i64 d.by_.agent,.int .i64 d.by_.life,.int .i64 d.by_.count] 28)).alloc (.map #[] 0)=w1 at *
 generalize w.alloc (.cells #[.slice AA d.add.length cA,.slice AD d.drop.length cD,.slice AM d.marks.length cM,.int .i64 d.cut,.int .i64 d.fence,.int .i64 d.by_.agent,.int .i64 d.by_.life,.int .i64 d.by_.count] 28)=wm at *
 go_loopw [13] (fun i wr=>∃ (j:Nat) (M:List (ByteArray × Unit)),j≤d.add.length∧i=.int .i64 (j:Int)∧Hid (MapAt kS evT wr (w.heap.size+1) M)∧Hid (Ks M ((keys d.add).take j))∧Hid (∀ i,i<j→enB (gt d.add i)=true)∧Hid (Below (w.heap.size+1) wm wr)∧w.heap.size+2≤wr.heap.size) (fun i _=>d.add.length-(intOf i).toNat)
 case atStart=>exact ⟨0,[],Nat.zero_le _,rfl,HM1,Jh Ks.nil,Jh (fun i hi=>absurd hi (by omega)),HW1,hz1⟩
 case round =>
  clear HM1 HW1 hz1
  obtain ⟨j,M,hj,rfl,HMM,HKM,HA,HW1,hz⟩:=hrel
  obtain ⟨wo,rfl⟩:∃ wo:World,wo=wr:=⟨_,rfl⟩
  by_cases hlt:j<d.add.length
  ·have hr:=HRA.out wo (HB0.out _ HW1.out).1
   obtain ⟨b,off,rfl,hbB⟩:=row_addr hr (by omega)
   obtain ⟨p0,p1,p2,p3,p4,p5,p6,p7,p8⟩:wo.cell? ⟨b,off+j*9,none⟩=some (.string (gt d.add j).key)∧wo.cell? ⟨b,off+j*9+1,none⟩=some (.int .i64 (gt d.add j).window)∧wo.cell? ⟨b,off+j*9+2,none⟩=some (.string (gt d.add j).part)∧wo.cell? ⟨b,off+j*9+3,none⟩=some (.int .i64 (gt d.add j).first)∧wo.cell? ⟨b,off+j*9+4,none⟩=some (.int .i64 (gt d.add j).last)∧wo.cell? ⟨b,off+j*9+5,none⟩=some (.int .i64 (gt d.add j).rows)∧wo.cell? ⟨b,off+j*9+6,none⟩=some (.int .i64 (gt d.add j).size)∧wo.cell? ⟨b,off+j*9+7,none⟩=some (.int .u32 (gt d.add j).sum)∧wo.cell? ⟨b,off+j*9+8,none⟩=some (.int .i64 (gt d.add j).born):=⟨row_cell ecs_len hr hlt (j:=0) rfl,row_cell ecs_len hr hlt (j:=1) rfl,row_cell ecs_len hr hlt (j:=2) rfl,row_cell ecs_len hr hlt (j:=3) rfl,row_cell ecs_len hr hlt (j:=4) rfl,row_cell ecs_len hr hlt (j:=5) rfl,row_cell ecs_len hr hlt (j:=6) rfl,row_cell ecs_len hr hlt (j:=7) rfl,row_cell ecs_len hr hlt (j:=8) rfl⟩
   have HOK:Hid (kS.ok (gt d.add j).key):=Jh (HKs.out _ (gt_mem hlt))
   have HS:Hid (Ks (mput kS.lt M (gt d.add j).key ()) ((keys d.add).take (j+1))):=Jh (by
    have:=HKM.out.step (lt:=kS.lt) (gt d.add j).key ()
    rw [take_gt (show j<(keys d.add).length by rw [keys_len];exact hlt),keys_gt hlt]
    exact this)
   have hlen:M.length≤17592186044416:=by
    have:=HKM.out.le
    rw [List.length_take] at this
    omega
   have HX2:=Jh (fun W hW=>HX.out (gt d.add j) (gt_mem hlt) W hW)
   have HY:=Jh (fun hh=>all_step (p:=enB) HA.out hh)
   have HNo:Hid (enB (gt d.add j)=false→out=false):=Jh fun hh=>by rw [HD.out,all_no hlt hh];rfl
   clear hr HKM HA
   generalize gt d.add j=x at *
   go_wp2_with (at_mapUpdate;go_must (refine wpList_put _ rfl _ _ _ rfl (HMM.out.alloc _) HU.out x.key () rfl rfl rfl HOK.out (by unfold maxLen;omega) ?_))
   intro w2 hm2 hg2 hs2
   have hsz:=(HB0.out _ HW1.out).2
   have hal:=HW1.out.alloc (by have:=HW1.out.size;omega) (.cells #[.string x.key,.int .i64 x.window,.string x.part,.int .i64 x.first,.int .i64 x.last,.int .i64 x.rows,.int .i64 x.size,.int .u32 x.sum,.int .i64 x.born] 85)
   have hb2:Below (w.heap.size+1) wm w2:=hal.grown hg2 (by simp;omega) (by intro g hg;injection hg with hg;omega)
   have hbk:Blk w2 wo.heap.size 85 #[.string x.key,.int .i64 x.window,.string x.part,.int .i64 x.first,.int .i64 x.last,.int .i64 x.rows,.int .i64 x.size,.int .u32 x.sum,.int .i64 x.born]:=(Blk.new wo 85 #[.string x.key,.int .i64 x.window,.string x.part,.int .i64 x.first,.int .i64 x.last,.int .i64 x.rows,.int .i64 x.size,.int .u32 x.sum,.int .i64 x.born]).grown hg2 (by intro hg;injection hg with hg;omega)
   obtain ⟨q0,q1,q2,q3,q4,q5,q6,q7,q8⟩:w2.cell? ⟨wo.heap.size,0,none⟩=some (.string x.key)∧w2.cell? ⟨wo.heap.size,1,none⟩=some (.int .i64 x.window)∧w2.cell? ⟨wo.heap.size,2,none⟩=some (.string x.part)∧w2.cell? ⟨wo.heap.size,3,none⟩=some (.int .i64 x.first)∧w2.cell? ⟨wo.heap.size,4,none⟩=some (.int .i64 x.last)∧w2.cell? ⟨wo.heap.size,5,none⟩=some (.int .i64 x.rows)∧w2.cell? ⟨wo.heap.size,6,none⟩=some (.int .i64 x.size)∧w2.cell? ⟨wo.heap.size,7,none⟩=some (.int .u32 x.sum)∧w2.cell? ⟨wo.heap.size,8,none⟩=some (.int .i64 x.born):=⟨hbk.cell 0,hbk.cell 1,hbk.cell 2,hbk.cell 3,hbk.cell 4,hbk.cell 5,hbk.cell 6,hbk.cell 7,hbk.cell 8⟩
   have HMM2:=Jh hm2
   have HW2:=Jh hb2
   have hX:=HX2.out w2 (HB0.out _ hb2).1
   have hz2:w.heap.size+2≤w2.heap.size:=by omega
   clear hm2 hg2 hbk hal hb2 HX2
   cases hx:enB x
   ·rw [hx] at hX
    have HX3:=Jh hX
    have HV:=Jh (HNo.out hx)
    clear hX hx
    go_wp2_with (go_at_call 89;refine HX3.out.mono ?_;rintro e w3 ⟨rfl,hb3⟩)
    go_ret
    exact ⟨by rw [HV.out];rfl,(HB0.out _ (HW2.out.trans (hb3.mono (by omega)))).1⟩
   ·rw [hx] at hX
    have HX3:=Jh hX
    have HA2:=Jh (HY.out hx)
    clear hX hx
    go_wp2_with (go_at_call 89;refine HX3.out.mono ?_;rintro e w3 ⟨rfl,hb3⟩)
    have HMM3:=Jh (HMM2.out.below hb3 HMM2.out.lt_)
    have HW3:=Jh (HW2.out.trans (hb3.mono (by omega)))
    have hz3:w.heap.size+2≤w3.heap.size:=Nat.le_trans hz2 hb3.size
    go_roundw
    case rel=>exact ⟨j+1,_,by omega,by go_num,HMM3,HS,HA2,HW3,hz3⟩
    case measure=>simp [intOf];omega
  ·obtain rfl:j=d.add.length:=by omega
   have HK1:Hid (((M.length:Int) == (d.add.length:Int))=decide (keys d.add).Nodup):=Jh (by
    have h:=HKM.out
    rw [List.take_of_length_le (by rw [keys_len];exact Nat.le_refl _)] at h
    have h2:=h.eq
    rw [keys_len] at h2
    by_cases hn:(keys d.add).Nodup
    ·rw [dct hn,eqt (by have:=h2.2 hn;omega)]
    ·rw [dcf hn,eqf (fun e=>hn (h2.1 (by omega)))])
   have HD2:Hid (out=(d.drop.all keyB&&decide (keys d.add).Nodup&&decide d.drop.Nodup&&risB mkB ltP d.marks&&numB d.cut 0&&numB d.fence 0&&owB d.by_)):=Jh (by rw [HD.out,all_yes HA.out];rfl)
   obtain ⟨s0,s1,s2,s3,s4,s5,s6,s7⟩:=HK.out _ HW1.out
   clear HD HKM HA HX HRA HKs
   have hgw:w.heap.size<wo.heap.size:=by omega
   go_wp2
   have HM2:=Jh (MapAt.new kS evT wo)
   have HW2:Hid (Below (w.heap.size+1) wm (wo.alloc (.map #[] 0))):=Jh (HW1.out.alloc (by have:=HW1.out.size;omega) _)
   have HMM2:=Jh (HMM.out.alloc (.map #[] 0))
   have hz2:wo.heap.size<(wo.alloc (.map #[] 0)).heap.size:=by simp
   have hz3:w.heap.size+1<wo.heap.size:=by omega
   clear HMM HW1
   generalize wo.alloc (.map #[] 0)=w1 at *
   generalize wo.heap.size=g2 at *
   go_loopw [28] (fun i wr=>∃ (j:Nat) (N:List (ByteArray × Unit)),j≤d.drop.length∧i=.int .i64 (j:Int)∧Hid (MapAt kS evT wr (w.heap.size+1) M)∧Hid (MapAt kS evT wr g2 N)∧Hid (Ks N (d.drop.take j))∧Hid (∀ i,i<j→keyB (gt d.drop i)=true)∧Hid (Below (w.heap.size+1) wm wr)∧g2<wr.heap.size) (fun i _=>d.drop.length-(intOf i).toNat)
   case atStart=>exact ⟨0,[],Nat.zero_le _,rfl,HMM2,HM2,Jh Ks.nil,Jh (fun i hi=>absurd hi (by omega)),HW2,hz2⟩
   case round =>
    clear HM2 HW2 HMM2 hz2
    obtain ⟨j,N,hj,rfl,HMM,HMN,HKN,HA,HW1,hz2⟩:=hrel
    obtain ⟨wi,rfl⟩:∃ wi:World,wi=wr:=⟨_,rfl⟩
    by_cases hlt:j<d.drop.length
    ·have hr:=HRD.out wi (HB0.out _ HW1.out).1
     obtain ⟨b,off,rfl,hbB⟩:=row_addr hr (by omega)
     have p0:=strs_cell hr hlt
     have HOK:Hid (kS.ok (gt d.drop j)):=Jh (Nat.le_trans (HDs.out _ (gt_mem hlt)) (by unfold maxLen;omega))
     have HS:Hid (Ks (mput kS.lt N (gt d.drop j) ()) (d.drop.take (j+1))):=Jh (by
      have:=HKN.out.step (lt:=kS.lt) (gt d.drop j) ()
      rw [take_gt hlt]
      exact this)
     have hlen:N.length≤17592186044416:=by
      have:=HKN.out.le
      rw [List.length_take] at this
      omega
     have HX2:=Jh (fun W=>key_calls (gt d.drop j) W (HDs.out _ (gt_mem hlt)))
     have HY:=Jh (fun hh=>all_step (p:=keyB) HA.out hh)
     have HNo:Hid (keyB (gt d.drop j)=false→out=false):=Jh fun hh=>by rw [HD2.out,all_no hlt hh];rfl
     clear hr HKN HA
     generalize gt d.drop j=x at *
     go_wp2_with (at_mapUpdate;go_must (refine wpList_put _ rfl _ _ _ rfl HMN.out HU.out x () rfl rfl rfl HOK.out (by unfold maxLen;omega) ?_))
     intro w2 hm2 hg2 hs2
     have hsz:=(HB0.out _ HW1.out).2
     have HW2:Hid (Below (w.heap.size+1) wm w2):=Jh (HW1.out.grown hg2 hsz (by intro g hg;injection hg with hg;omega))
     have HMN2:=Jh hm2
     have HMM2:=Jh (HMM.out.kept hg2 (by intro hg;injection hg with hg;omega))
     have hz4:g2<w2.heap.size:=by omega
     have hX:=HX2.out
     clear hm2 hg2 HX2 HMM HMN HW1
     cases hx:keyB x
     ·rw [hx] at hX
      have HX3:=Jh hX
      have HV:=Jh (HNo.out hx)
      clear hX hx
      go_wp2_with (go_at_call 119;refine (HX3.out _).mono ?_;rintro e w3 ⟨rfl,rfl⟩)
      go_ret
      exact ⟨by rw [HV.out];rfl,(HB0.out _ HW2.out).1⟩
     ·rw [hx] at hX
      have HX3:=Jh hX
      have HA2:=Jh (HY.out hx)
      clear hX hx
      go_wp2_with (go_at_call 119;refine (HX3.out _).mono ?_;rintro e w3 ⟨rfl,rfl⟩)
      go_roundw
      case rel=>exact ⟨j+1,_,by omega,by go_num,HMM2,HMN2,HS,HA2,HW2,hz4⟩
      case measure=>simp [intOf];omega
    ·obtain rfl:j=d.drop.length:=by omega
     have HK2:Hid (((N.length:Int) == (d.drop.length:Int))=decide d.drop.Nodup):=Jh (by
      have h:=HKN.out
      rw [List.take_length] at h
      have h2:=h.eq
      by_cases hn:d.drop.Nodup
      ·rw [dct hn,eqt (by have:=h2.2 hn;omega)]
      ·rw [dcf hn,eqf (fun e=>hn (h2.1 (by omega)))])
     have HD3:Hid (out=(decide (keys d.add).Nodup&&decide d.drop.Nodup&&risB mkB ltP d.marks&&numB d.cut 0&&numB d.fence 0&&owB d.by_)):=Jh (by rw [HD2.out,all_yes HA.out];rfl)
     obtain ⟨t0,t1,t2,t3,t4,t5,t6,t7⟩:=HK.out _ HW1.out
     obtain ⟨hb00,hsz⟩:=HB0.out _ HW1.out
     have hl1:=HMM.out.len_run HU.out 3
     have hl2:=HMN.out.len_run HU.out 3
     clear HD2 HKN HA HRD HDs HMM HMN s0 s1 s2 s3 s4 s5 s6 s7
     generalize risB mkB ltP d.marks=rp at *
     by_cases e0:(keys d.add).Nodup
     ·have te0:((M.length:Int) == (d.add.length:Int))=true:=by rw [HK1.out,dct e0]
      by_cases e1:d.drop.Nodup
      ·have te1:((N.length:Int) == (d.drop.length:Int))=true:=by rw [HK2.out,dct e1]
       by_cases e2:rp=true
       ·have te2:rp=true:=e2
        by_cases e3:numB d.cut 0=true
        ·have te3:numB d.cut 0=true:=e3
         by_cases e4:numB d.fence 0=true
         ·have te4:numB d.fence 0=true:=e4
          have HV:Hid (out=owB d.by_):=Jh (by rw [HD3.out,dct e0,dct e1,te2,te3,te4];rfl)
          clear HD3 HK1 HK2 e0 e1
          subst e2
          go_wp2_with first|(go_at_call 87;refine (HN.out _ _ _).mono ?_;rintro e w9 ⟨rfl,rfl⟩)|(go_at_call 91;refine (HM.out _ hb00).mono ?_;rintro e w3 ⟨rfl,hb3'⟩;have hb3:Below w.heap.size w w3:=hb00.trans (hb3'.mono (by omega));have hs3:=hb3.size;obtain ⟨r0,r1,r2,r3,r4,r5,r6,r7⟩:=HK.out w3 (HW1.out.trans (hb3'.mono hsz));clear hb3')|(go_at_call 95;refine (HW.out _).mono ?_;rintro e w4 ⟨rfl,hb4'⟩;have hb4:Below w.heap.size w w4:=hb3.trans (hb4'.mono hs3))
          go_ret
          exact ⟨by rw [HV.out];rfl,hb4⟩
         ·have te4:numB d.fence 0=false:=by simpa using e4
          have HV:Hid (out=false):=Jh (by rw [HD3.out];first|(rw [te4];simp)|(rw [dcf e4];simp))
          clear HD3 HK1 HK2
          go_wp2_with first|(go_at_call 87;refine (HN.out _ _ _).mono ?_;rintro e w9 ⟨rfl,rfl⟩)|(go_at_call 91;refine (HM.out _ hb00).mono ?_;rintro e w3 ⟨rfl,hb3'⟩;have hb3:Below w.heap.size w w3:=hb00.trans (hb3'.mono (by omega));have hs3:=hb3.size;obtain ⟨r0,r1,r2,r3,r4,r5,r6,r7⟩:=HK.out w3 (HW1.out.trans (hb3'.mono hsz));clear hb3')|(go_at_call 95;refine (HW.out _).mono ?_;rintro e w4 ⟨rfl,hb4'⟩;have hb4:Below w.heap.size w w4:=hb3.trans (hb4'.mono hs3))
          go_ret
          exact ⟨by rw [HV.out];rfl,by first|exact hb3|exact hb00⟩
        ·have te3:numB d.cut 0=false:=by simpa using e3
         have HV:Hid (out=false):=Jh (by rw [HD3.out];first|(rw [te3];simp)|(rw [dcf e3];simp))
         clear HD3 HK1 HK2
         go_wp2_with first|(go_at_call 87;refine (HN.out _ _ _).mono ?_;rintro e w9 ⟨rfl,rfl⟩)|(go_at_call 91;refine (HM.out _ hb00).mono ?_;rintro e w3 ⟨rfl,hb3'⟩;have hb3:Below w.heap.size w w3:=hb00.trans (hb3'.mono (by omega));have hs3:=hb3.size;obtain ⟨r0,r1,r2,r3,r4,r5,r6,r7⟩:=HK.out w3 (HW1.out.trans (hb3'.mono hsz));clear hb3')|(go_at_call 95;refine (HW.out _).mono ?_;rintro e w4 ⟨rfl,hb4'⟩;have hb4:Below w.heap.size w w4:=hb3.trans (hb4'.mono hs3))
         go_ret
         exact ⟨by rw [HV.out];rfl,by first|exact hb3|exact hb00⟩
       ·have te2:rp=false:=by simpa using e2
        have HV:Hid (out=false):=Jh (by rw [HD3.out];first|(rw [te2];simp)|(rw [dcf e2];simp))
        clear HD3 HK1 HK2
        go_wp2_with first|(go_at_call 87;refine (HN.out _ _ _).mono ?_;rintro e w9 ⟨rfl,rfl⟩)|(go_at_call 91;refine (HM.out _ hb00).mono ?_;rintro e w3 ⟨rfl,hb3'⟩;have hb3:Below w.heap.size w w3:=hb00.trans (hb3'.mono (by omega));have hs3:=hb3.size;obtain ⟨r0,r1,r2,r3,r4,r5,r6,r7⟩:=HK.out w3 (HW1.out.trans (hb3'.mono hsz));clear hb3')|(go_at_call 95;refine (HW.out _).mono ?_;rintro e w4 ⟨rfl,hb4'⟩;have hb4:Below w.heap.size w w4:=hb3.trans (hb4'.mono hs3))
        go_ret
        exact ⟨by rw [HV.out];rfl,by first|exact hb3|exact hb00⟩
      ·have te1:((N.length:Int) == (d.drop.length:Int))=false:=by rw [HK2.out,dcf e1]
       have HV:Hid (out=false):=Jh (by rw [HD3.out];first|(rw [te1];simp)|(rw [dcf e1];simp))
       clear HD3 HK1 HK2
       go_wp2_with first|(go_at_call 87;refine (HN.out _ _ _).mono ?_;rintro e w9 ⟨rfl,rfl⟩)|(go_at_call 91;refine (HM.out _ hb00).mono ?_;rintro e w3 ⟨rfl,hb3'⟩;have hb3:Below w.heap.size w w3:=hb00.trans (hb3'.mono (by omega));have hs3:=hb3.size;obtain ⟨r0,r1,r2,r3,r4,r5,r6,r7⟩:=HK.out w3 (HW1.out.trans (hb3'.mono hsz));clear hb3')|(go_at_call 95;refine (HW.out _).mono ?_;rintro e w4 ⟨rfl,hb4'⟩;have hb4:Below w.heap.size w w4:=hb3.trans (hb4'.mono hs3))
       go_ret
       exact ⟨by rw [HV.out];rfl,by first|exact hb3|exact hb00⟩
     ·have te0:((M.length:Int) == (d.add.length:Int))=false:=by rw [HK1.out,dcf e0]
      have HV:Hid (out=false):=Jh (by rw [HD3.out];first|(rw [te0];simp)|(rw [dcf e0];simp))
      clear HD3 HK1 HK2
      go_wp2_with first|(go_at_call 87;refine (HN.out _ _ _).mono ?_;rintro e w9 ⟨rfl,rfl⟩)|(go_at_call 91;refine (HM.out _ hb00).mono ?_;rintro e w3 ⟨rfl,hb3'⟩;have hb3:Below w.heap.size w w3:=hb00.trans (hb3'.mono (by omega));have hs3:=hb3.size;obtain ⟨r0,r1,r2,r3,r4,r5,r6,r7⟩:=HK.out w3 (HW1.out.trans (hb3'.mono hsz));clear hb3')|(go_at_call 95;refine (HW.out _).mono ?_;rintro e w4 ⟨rfl,hb4'⟩;have hb4:Below w.heap.size w w4:=hb3.trans (hb4'.mono hs3))
      go_ret
      exact ⟨by rw [HV.out];rfl,by first|exact hb3|exact hb00⟩
def hasB (l:List ByteArray) (k:ByteArray):Bool:=l.any fun x=>x.toList == k.toList
theorem bytes_beq (x y:ByteArray):(x.toList == y.toList)=decide (x=y):=by
 rw [Bool.eq_iff_iff,beq_iff_eq,decide_eq_true_iff,ByteArray.toList_eq,ByteArray.toList_eq]
 constructor
 ·intro h
  cases x;cases y
  congr 1
  exact Array.ext' h
 ·rintro rfl;rfl
theorem has_mem {l:List ByteArray} {k:ByteArray}:hasB l k=true↔k∈l:=by
 unfold hasB
 rw [List.any_eq_true]
 constructor
 ·rintro ⟨x,hx,h⟩
  rw [bytes_beq,decide_eq_true_iff] at h
  exact h ▸ hx
 ·intro h
  exact ⟨k,h,by rw [bytes_beq];exact dct rfl⟩
set_option maxRecDepth 100000 in
set_option maxHeartbeats 1600000 in
theorem has_calls (w:World) {B c:Nat} {A:Option Addr} {l:List ByteArray} (k:ByteArray) (h:Reads w B 1 A l.length (l.map Value.string)) (hn:l.length≤17592186044416) :
  Calls Tryz.prog 56 #[.slice A l.length c,.string k] w fun e w'=>e=.returned (.bool (hasB l k))∧w'=w:=by
 have HR:=Jh h
 clear h
 go_enter Tryz.func56,Tryz.ntmps56
 go_wp2
 go_loopw [9] (fun i wr=>∃ j:Nat,j≤l.length∧i=.int .i64 (j:Int)∧Hid (∀ i,i<j→((gt l i).toList == k.toList)=false)∧Hid (wr=w)) (fun i _=>l.length-(intOf i).toNat)
 case atStart=>exact ⟨0,Nat.zero_le _,rfl,Jh (fun i hi=>absurd hi (Nat.not_lt_zero i)),Jh rfl⟩
 case round =>
  obtain ⟨j,hj,rfl,HF,HE⟩:=hrel
  obtain rfl:=HE.out
  by_cases hlt:j<l.length
  ·have hr:=HR.out
   obtain ⟨b,off,rfl,hbB⟩:=row_addr hr (by omega)
   have p0:=strs_cell hr hlt
   have HS:=Jh fun hh=>any_yes (p:=fun x:ByteArray=>x.toList == k.toList) hlt hh
   have HN:=Jh fun hh=>any_step (p:=fun x:ByteArray=>x.toList == k.toList) HF.out hh
   clear hr HF
   generalize gt l j=x at *
   cases hx:(x.toList == k.toList)
   ·have HN2:=Jh (HN.out hx)
    go_wp2
    go_roundw
    case rel=>exact ⟨j+1,by omega,by go_num,HN2,Jh trivial⟩
    case measure=>simp [intOf];omega
   ·have HV:=Jh (HS.out hx)
    go_wp2
    go_ret
    exact ⟨by unfold hasB;rw [HV.out];rfl,rfl⟩
  ·obtain rfl:j=l.length:=by omega
   have HV:=Jh (any_no (p:=fun x:ByteArray=>x.toList == k.toList) HF.out)
   go_wp2
   go_ret
   exact ⟨by unfold hasB;rw [HV.out];rfl,rfl⟩
theorem keyIs_iff {k:ByteArray} {x:En}:keyIs k x=true↔x.key=k:=by unfold keyIs;rw [bytes_beq,decide_eq_true_iff]
def hasK (k:ByteArray) (E:List En):Bool:=E.any (keyIs k)
theorem hasK_iff {k:ByteArray} {E:List En}:hasK k E=true↔∃ x∈E,x.key=k:=by
 unfold hasK
 rw [List.any_eq_true]
 exact exists_congr fun x=>and_congr_right fun _=>keyIs_iff
theorem fi_le {α:Type} (p:α→Bool):∀ l:List α,fi p l≤l.length
 | []=>Nat.le_refl _
 | x::r=>by
  unfold fi
  split
  ·exact Nat.zero_le _
  ·rw [List.length_cons];have:=fi_le p r;omega
theorem fi_any {α:Type} {p:α→Bool}:∀ {l:List α},l.any p=decide (fi p l<l.length)
 | []=>rfl
 | x::r=>by
  unfold fi
  rw [List.any_cons]
  cases hx:p x
  ·rw [if_neg (by decide),Bool.false_or,fi_any,List.length_cons]
   exact decide_eq_decide.2 (by omega)
  ·rw [if_pos rfl,List.length_cons,Bool.true_or]
   exact (dct (by omega)).symm
theorem ix_has (k:ByteArray) (E:List En):decide (ix (keyIs k) E<0)=!hasK k E:=by
 unfold ix hasK
 rw [fi_any]
 have:=fi_le (keyIs k) E
 by_cases h:fi (keyIs k) E=E.length
 ·rw [if_pos h,dct (by omega),dcf (by omega)];rfl
 ·rw [if_neg h,dcf (by omega),dct (by omega)];rfl
theorem ix_has' (k:ByteArray) (E:List En):decide (0≤ix (keyIs k) E)=hasK k E:=by
 have h:=ix_has k E
 by_cases h0:ix (keyIs k) E<0
 ·rw [dct h0] at h
  rw [dcf (by omega)]
  cases hh:hasK k E
  ·rfl
  ·rw [hh] at h;cases h
 ·rw [dcf h0] at h
  rw [dct (by omega)]
  cases hh:hasK k E
  ·rw [hh] at h;cases h
  ·rfl
def ver1 (d:Ed) (x:Ow):Bool:=decide (x.agent=d.by_.agent)&&(decide (d.by_.life<x.life)||(decide (x.life=d.by_.life)&&decide (d.by_.count≤x.count)))
def verB (m:Md) (d:Ed):Bool:=m.O.any (ver1 d)
def dup1 (m:Md) (x:Mk):Bool:=decide (x.seq≤seqL x.maker m.M)
def dupB (m:Md) (d:Ed):Bool:=d.marks.any (dup1 m)
def lost1 (m:Md) (k:ByteArray):Bool:=!hasK k m.E
def lostB (m:Md) (d:Ed):Bool:=d.drop.any (lost1 m)
def fen1 (m:Md) (d:Ed) (x:En):Bool:=decide (x.born<m.fence)||decide (x.born<d.fence)
def fenB (m:Md) (d:Ed):Bool:=d.add.any (fen1 m d)
def exi1 (m:Md) (d:Ed) (x:En):Bool:=hasK x.key m.E&&!hasB d.drop x.key
def exiB (m:Md) (d:Ed):Bool:=d.add.any (exi1 m d)
noncomputable def refE (m:Md) (d:Ed):Int :=
 if (!rightB m||!editB d)=true then 4 else if verB m d=true then 8 else if dupB m d=true then 12 else if lostB m d=true then 17 else if fenB m d=true then 11 else if exiB m d=true then 18 else if m.gen=1099511627775 then 2 else 0
structure Fine (m:Md) (d:Ed):Prop where
 right:rightB m=true
 edit:editB d=true
 ver:verB m d=false
 dup:dupB m d=false
 lost:lostB m d=false
 fen:fenB m d=false
 exi:exiB m d=false
 gen:m.gen≠1099511627775
theorem refE_fine {m:Md} {d:Ed}:refE m d=0↔Fine m d:=by
 unfold refE
 constructor
 ·intro h
  split at h
  ·cases h
  split at h
  ·cases h
  split at h
  ·cases h
  split at h
  ·cases h
  split at h
  ·cases h
  split at h
  ·cases h
  split at h
  ·cases h
  rename_i h1 h2 h3 h4 h5 h6 h7
  simp only [Bool.or_eq_true,Bool.not_eq_true',not_or,Bool.not_eq_false] at h1
  exact ⟨h1.1,h1.2,by simpa using h2,by simpa using h3,by simpa using h4,by simpa using h5,by simpa using h6,h7⟩
 ·intro h
  rw [h.right,h.edit,h.ver,h.dup,h.lost,h.fen,h.exi,if_neg h.gen]
  rfl
theorem srt_eq {α:Type} [DecidableEq α] {lt:α→α→Bool} (hi:∀ x,lt x x=false) (ht:∀ x y z,lt x y=true→lt y z=true→lt x z=true) :
  ∀ {a b:List α},a.Pairwise (fun x y=>lt x y=true)→b.Pairwise (fun x y=>lt x y=true)→(∀ x,x∈a↔x∈b)→a=b
 | [],[],_,_,_=>rfl
 | [],y::b,_,_,h=>by have:=(h y).2 (by simp);cases this
 | x::a,[],_,_,h=>by have:=(h x).1 (by simp);cases this
 | x::a,y::b,ha,hb,h=>by
  rw [List.pairwise_cons] at ha hb
  have hxy:x=y:=by
   rcases List.mem_cons.1 ((h x).1 (by simp)) with e|e
   ·exact e
   ·rcases List.mem_cons.1 ((h y).2 (by simp)) with e'|e'
    ·exact e'.symm
    ·have:=ht _ _ _ (hb.1 x e) (ha.1 y e')
     rw [hi] at this;cases this
  subst hxy
  congr 1
  refine srt_eq hi ht ha.2 hb.2 fun z=>?_
  constructor
  ·intro hz
   rcases List.mem_cons.1 ((h z).1 (List.mem_cons_of_mem _ hz)) with e|e
   ·subst e
    have:=ha.1 z hz
    rw [hi] at this;cases this
   ·exact e
  ·intro hz
   rcases List.mem_cons.1 ((h z).2 (List.mem_cons_of_mem _ hz)) with e|e
   ·subst e
    have:=hb.1 z hz
    rw [hi] at this;cases this
   ·exact e
theorem ris_iff {α:Type} [Inhabited α] {r:α→Bool} {lt:α→α→Bool} (ht:∀ x y z,lt x y=true→lt y z=true→lt x z=true) {l:List α} :
  risB r lt l=true↔(∀ x∈l,r x=true)∧l.Pairwise (fun x y=>lt x y=true):=by
 unfold risB
 rw [decide_eq_true_iff]
 unfold RisP
 constructor
 ·intro h
  refine ⟨fun x hx=>?_,?_⟩
  ·obtain ⟨i,hi,rfl⟩:=mem_gt hx
   exact (h i hi).1
  ·have key:∀ j,j<l.length→∀ i,i<j→lt (gt l i) (gt l j)=true:=by
    intro j
    induction j with
    | zero=>intro _ i hi;omega
    | succ j ih =>
     intro hj i hi
     have h1:=(h (j+1) hj).2 (by omega)
     rw [Nat.add_sub_cancel] at h1
     rcases Nat.lt_or_ge i j with h2|h2
     ·exact ht _ _ _ (ih (by omega) i h2) h1
     ·obtain rfl:i=j:=by omega
      exact h1
   rw [List.pairwise_iff_getElem]
   intro i j hi hj hij
   rw [gt_eq hi,gt_eq hj]
   exact key j hj i hij
 ·rintro ⟨h1,h2⟩ i hi
  refine ⟨h1 _ (gt_mem hi),fun hp=>?_⟩
  rw [List.pairwise_iff_getElem] at h2
  have:=h2 (i-1) i (by omega) hi (by omega)
  rw [gt_eq,gt_eq] at this
  exact this
theorem ltS_irr (x:ByteArray):ltS x x=false:=by
 cases h:ltS x x
 ·rfl
 ·exact absurd rfl (ltK_ne (K:=kS) h)
theorem ltS_trans {x y z:ByteArray} (h:ltS x y=true) (h':ltS y z=true):ltS x z=true:=ltK_trans (K:=kS) h h'
theorem ltS_tot {x y:ByteArray} (hx:x.size≤maxLen) (hy:y.size≤maxLen) (h:x≠y):ltS x y=true∨ltS y x=true:=ltK_tot (K:=kS) hx hy h
theorem ltE_irr (x:En):ltE x x=false:=ltS_irr _
theorem ltE_trans (x y z:En) (h:ltE x y=true) (h':ltE y z=true):ltE x z=true:=ltS_trans h h'
theorem ltM_trans (x y z:Mk) (h:ltM x y=true) (h':ltM y z=true):ltM x z=true:=by unfold ltM at *;rw [decide_eq_true_iff] at *;omega
theorem ltO_trans (x y z:Ow) (h:ltO x y=true) (h':ltO y z=true):ltO x z=true:=by unfold ltO at *;rw [decide_eq_true_iff] at *;omega
theorem ltP_trans (x y z:Mk) (h:ltP x y=true) (h':ltP y z=true):ltP x z=true:=by unfold ltP at *;rw [decide_eq_true_iff] at *;omega
theorem ltM_irr (x:Mk):ltM x x=false:=dcf (by omega)
theorem ltO_irr (x:Ow):ltO x x=false:=dcf (by omega)
def insK (x:En):List En→List En
 | []=>[x]
 | y::r=>if ltE y x=true then y::insK x r else x::y::r
theorem insK_mem {x z:En}:∀ {l:List En},z∈insK x l↔z=x∨z∈l
 | []=>by simp [insK]
 | y::r=>by
  unfold insK
  split
  ·rw [List.mem_cons,insK_mem,List.mem_cons]
   constructor
   ·rintro (h|h|h)
    ·exact .inr (.inl h)
    ·exact .inl h
    ·exact .inr (.inr h)
   ·rintro (h|h|h)
    ·exact .inr (.inl h)
    ·exact .inl h
    ·exact .inr (.inr h)
  ·simp
theorem insK_len (x:En):∀ l:List En,(insK x l).length=l.length+1
 | []=>rfl
 | y::r=>by
  unfold insK
  split
  ·rw [List.length_cons,insK_len x r,List.length_cons]
  ·rfl
theorem insK_srt {x:En}:∀ {l:List En},l.Pairwise (fun a b=>ltE a b=true)→(∀ y∈l,y.key≠x.key)→(∀ y∈l,y.key.size≤maxLen)→x.key.size≤maxLen→(insK x l).Pairwise (fun a b=>ltE a b=true)
 | [],_,_,_,_=>by simp [insK]
 | y::r,hs,hn,hz,hx=>by
  rw [List.pairwise_cons] at hs
  unfold insK
  split
  ·rename_i h
   rw [List.pairwise_cons]
   refine ⟨fun z hz'=>?_,insK_srt hs.2 (fun z hz'=>hn z (List.mem_cons_of_mem _ hz')) (fun z hz'=>hz z (List.mem_cons_of_mem _ hz')) hx⟩
   rcases insK_mem.1 hz' with rfl|hz'
   ·exact h
   ·exact hs.1 z hz'
  ·rename_i h
   have hxy:ltE x y=true:=by
    rcases ltS_tot hx (hz y (by simp)) (fun e=>hn y (by simp) e.symm) with h1|h1
    ·exact h1
    ·exact absurd h1 h
   rw [List.pairwise_cons]
   refine ⟨fun z hz'=>?_,List.pairwise_cons.2 hs⟩
   rcases List.mem_cons.1 hz' with rfl|hz'
   ·exact hxy
   ·exact ltE_trans _ _ _ hxy (hs.1 z hz')
def posK (x:En):List En→Nat
 | []=>0
 | y::r=>if ltE y x=true then posK x r+1 else 0
theorem insK_pos (x:En):∀ l:List En,insK x l=l.take (posK x l)++[x]++l.drop (posK x l)
 | []=>rfl
 | y::r=>by
  unfold insK posK
  split
  ·rw [insK_pos x r,List.take_succ_cons,List.drop_succ_cons];rfl
  ·rfl
theorem posK_at {x:En}:∀ {l:List En} {n:Nat},n≤l.length→(∀ i,i<n→ltE (gt l i) x=true)→(n<l.length→ltE (gt l n) x=false)→posK x l=n
 | [],n,hn,_,_=>by simp at hn;subst hn;rfl
 | y::r,0,_,_,h=>by
  unfold posK
  rw [if_neg (by rw [show ltE y x=false from h (by simp)];decide)]
 | y::r,n+1,hn,h1,h2=>by
  unfold posK
  rw [if_pos (show ltE y x=true from h1 0 (by omega)),posK_at (l:=r) (n:=n) (by simpa using hn) (fun i hi=>h1 (i+1) (by omega)) (fun hh=>h2 (by simpa using hh))]
def stepE (c:Int) (acc:List En) (x:En):List En:=if x.window<c then acc else insK x acc
def entF (c:Int) (l acc:List En):List En:=l.foldl (stepE c) acc
theorem entF_mem {c:Int} {z:En}:∀ {l acc:List En},z∈entF c l acc↔(z∈l∧c≤z.window)∨z∈acc
 | [],acc=>by simp [entF]
 | x::l,acc=>by
  show z∈entF c l (stepE c acc x)↔_
  rw [entF_mem]
  unfold stepE
  by_cases h:x.window<c
  ·rw [if_pos h,List.mem_cons]
   constructor
   ·rintro (h1|h1)
    ·exact .inl ⟨.inr h1.1,h1.2⟩
    ·exact .inr h1
   ·rintro (⟨rfl|h1,h2⟩|h1)
    ·omega
    ·exact .inl ⟨h1,h2⟩
    ·exact .inr h1
  ·rw [if_neg h,List.mem_cons,insK_mem]
   constructor
   ·rintro (h1|rfl|h1)
    ·exact .inl ⟨.inr h1.1,h1.2⟩
    ·exact .inl ⟨.inl rfl,by omega⟩
    ·exact .inr h1
   ·rintro (⟨rfl|h1,h2⟩|h1)
    ·exact .inr (.inl rfl)
    ·exact .inl ⟨h1,h2⟩
    ·exact .inr (.inr h1)
theorem entF_srt {c:Int}:∀ {l acc:List En},acc.Pairwise (fun a b=>ltE a b=true)→l.Pairwise (fun a b=>a.key≠b.key)→(∀ x∈l,∀ y∈acc,y.key≠x.key)→(∀ x∈l,x.key.size≤maxLen)→(∀ x∈acc,x.key.size≤maxLen)→(entF c l acc).Pairwise (fun a b=>ltE a b=true)
 | [],acc,h,_,_,_,_=>h
 | x::l,acc,h,hn,hd,hz,hz2=>by
  show (entF c l (stepE c acc x)).Pairwise _
  rw [List.pairwise_cons] at hn
  have hst:∀ y∈stepE c acc x,y=x∨y∈acc:=by
   intro y hy
   unfold stepE at hy
   split at hy
   ·exact .inr hy
   ·exact insK_mem.1 hy
  refine entF_srt ?_ hn.2 (fun a ha y hy=>?_) (fun a ha=>hz a (List.mem_cons_of_mem _ ha)) (fun a ha=>?_)
  ·unfold stepE
   split
   ·exact h
   ·exact insK_srt h (hd x (by simp)) hz2 (hz x (by simp))
  ·rcases hst y hy with rfl|hy
   ·exact hn.1 a ha
   ·exact hd a (List.mem_cons_of_mem _ ha) y hy
  ·rcases hst a ha with rfl|ha
   ·exact hz a (by simp)
   ·exact hz2 a ha
def kept (m:Md) (d:Ed):List En:=m.E.filter fun x=>!hasB d.drop x.key
def cutOf (m:Md) (d:Ed):Int:=if m.cut≤d.cut then d.cut else m.cut
def fenOf (m:Md) (d:Ed):Int:=if m.fence≤d.fence then d.fence else m.fence
def ents (m:Md) (d:Ed):List En:=entF (cutOf m d) (d.add++kept m d) []
section
variable {α:Type} (k:α→Int)
def putL (x:α):List α→List α
 | []=>[x]
 | y::r=>if k y<k x then y::putL x r else if k y=k x then x::r else x::y::r
abbrev Srt (l:List α):Prop:=l.Pairwise fun a b=>k a<k b
variable {k}
theorem putL_mem {x z:α}:∀ {l:List α},Srt k l→(z∈putL k x l↔z=x∨(z∈l∧k z≠k x))
 | [],_=>by simp [putL]
 | y::r,hs=>by
  have hs':=List.pairwise_cons.1 hs
  unfold putL
  split
  ·rw [List.mem_cons,putL_mem hs'.2,List.mem_cons]
   constructor
   ·rintro (rfl|h|h)
    ·exact .inr ⟨.inl rfl,by omega⟩
    ·exact .inl h
    ·exact .inr ⟨.inr h.1,h.2⟩
   ·rintro (h|⟨h|h,h2⟩)
    ·exact .inr (.inl h)
    ·exact .inl h
    ·exact .inr (.inr ⟨h,h2⟩)
  ·split
   ·rw [List.mem_cons,List.mem_cons]
    constructor
    ·rintro (h|h)
     ·exact .inl h
     ·exact .inr ⟨.inr h,by have:=hs'.1 z h;omega⟩
    ·rintro (h|⟨rfl|h,h2⟩)
     ·exact .inl h
     ·omega
     ·exact .inr h
   ·rw [List.mem_cons]
    constructor
    ·rintro (h|h)
     ·exact .inl h
     ·refine .inr ⟨h,?_⟩
      rcases List.mem_cons.1 h with rfl|h
      ·omega
      ·have:=hs'.1 z h;omega
    ·rintro (h|h)
     ·exact .inl h
     ·exact .inr h.1
theorem putL_srt {x:α}:∀ {l:List α},Srt k l→Srt k (putL k x l)
 | [],_=>by simp [putL]
 | y::r,hs=>by
  have hs':=List.pairwise_cons.1 hs
  unfold putL
  split
  ·refine List.pairwise_cons.2 ⟨fun z hz=>?_,putL_srt hs'.2⟩
   rcases (putL_mem hs'.2).1 hz with rfl|h
   ·assumption
   ·exact hs'.1 z h.1
  ·split
   ·refine List.pairwise_cons.2 ⟨fun z hz=>?_,hs'.2⟩
    have:=hs'.1 z hz;omega
   ·refine List.pairwise_cons.2 ⟨fun z hz=>?_,hs⟩
    rcases List.mem_cons.1 hz with rfl|hz
    ·omega
    ·have:=hs'.1 z hz;omega
theorem putL_len (x:α):∀ l:List α,(putL k x l).length≤l.length+1
 | []=>Nat.le_refl _
 | y::r=>by
  unfold putL
  split
  ·rw [List.length_cons,List.length_cons];have:=putL_len x r;omega
  ·split
   ·rw [List.length_cons,List.length_cons];omega
   ·exact Nat.le_refl _
def posL (k:α→Int) (n:Int):List α→Nat
 | []=>0
 | y::r=>if k y<n then posL k n r+1 else 0
theorem posL_le (n:Int):∀ l:List α,posL k n l≤l.length
 | []=>Nat.le_refl _
 | y::r=>by
  unfold posL
  split
  ·rw [List.length_cons];have:=posL_le n r;omega
  ·exact Nat.zero_le _
def thereL [Inhabited α] (k:α→Int) (n:Int) (l:List α):Bool:=decide (posL k n l<l.length)&&decide (k (gt l (posL k n l))=n)
theorem putL_at [Inhabited α] (x:α):∀ l:List α,putL k x l=if thereL k (k x) l=true then l.set (posL k (k x) l) x else l.take (posL k (k x) l)++[x]++l.drop (posL k (k x) l)
 | []=>rfl
 | y::r=>by
  have ih:=putL_at x r
  unfold putL thereL posL
  by_cases h1:k y<k x
  ·rw [if_pos h1,if_pos h1,ih]
   unfold thereL
   rw [List.length_cons,show gt (y::r) (posL k (k x) r+1)=gt r (posL k (k x) r) from rfl]
   have e:decide (posL k (k x) r+1<r.length+1)=decide (posL k (k x) r<r.length):=decide_eq_decide.2 (by omega)
   rw [e]
   split
   ·rfl
   ·rw [List.take_succ_cons,List.drop_succ_cons];rfl
  ·rw [if_neg h1,if_neg h1]
   rw [show gt (y::r) 0=y from rfl,List.length_cons,dct (show 0<r.length+1 by omega),Bool.true_and]
   by_cases h2:k y=k x
   ·rw [if_pos h2,if_pos (dct h2)];rfl
   ·rw [if_neg h2,if_neg (by rw [dcf h2];decide)];rfl
end
def putMs (ms l:List Mk):List Mk:=ms.foldl (fun l x=>putL Mk.maker x l) l
theorem putMs_snoc (ms l:List Mk) (x:Mk):putMs (ms++[x]) l=putL Mk.maker x (putMs ms l):=by unfold putMs;rw [List.foldl_append];rfl
theorem putMs_len:∀ (ms l:List Mk),(putMs ms l).length≤ms.length+l.length
 | [],l=>by simp [putMs]
 | x::ms,l=>by
  show (putMs ms (putL Mk.maker x l)).length≤_
  have:=putMs_len ms (putL Mk.maker x l)
  have:=putL_len (k:=Mk.maker) x l
  rw [List.length_cons]
  omega
theorem putMs_srt:∀ (ms:List Mk) {l:List Mk},Srt Mk.maker l→Srt Mk.maker (putMs ms l)
 | [],l,h=>h
 | x::ms,l,h=>putMs_srt ms (putL_srt h)
theorem putMs_mem:∀ (ms:List Mk) {l:List Mk} {z:Mk},Srt Mk.maker l→z∈putMs ms l→z∈ms∨z∈l
 | [],l,z,_,h=>.inr h
 | x::ms,l,z,hs,h=>by
  rcases putMs_mem ms (putL_srt hs) h with h|h
  ·exact .inl (List.mem_cons_of_mem _ h)
  ·rcases (putL_mem hs).1 h with rfl|h
   ·exact .inl (by simp)
   ·exact .inr h.1
theorem seq_putL (k:Int) (x:Mk):∀ l:List Mk,seqL k (putL Mk.maker x l)=if x.maker=k then x.seq else seqL k l
 | []=>rfl
 | y::r=>by
  unfold putL
  by_cases h1:y.maker<x.maker
  ·rw [if_pos h1]
   show (if y.maker=k then y.seq else seqL k (putL Mk.maker x r))=_
   rw [seq_putL k x r]
   show _=if x.maker=k then x.seq else (if y.maker=k then y.seq else seqL k r)
   by_cases h2:y.maker=k
   ·rw [if_pos h2,if_neg (by omega),if_pos h2]
   ·rw [if_neg h2,if_neg h2]
  ·rw [if_neg h1]
   by_cases h2:y.maker=x.maker
   ·rw [if_pos h2]
    show (if x.maker=k then x.seq else seqL k r)=if x.maker=k then x.seq else (if y.maker=k then y.seq else seqL k r)
    by_cases h3:x.maker=k
    ·rw [if_pos h3,if_pos h3]
    ·rw [if_neg h3,if_neg h3,if_neg (by omega)]
   ·rw [if_neg h2]
    show (if x.maker=k then x.seq else seqL k (y::r))=_
    rfl
def lastM (k:Int) (ms:List Mk) (s:Int):Int:=ms.foldl (fun s x=>if x.maker=k then x.seq else s) s
theorem seq_putMs (k:Int):∀ (ms l:List Mk),seqL k (putMs ms l)=lastM k ms (seqL k l)
 | [],l=>rfl
 | x::ms,l=>by
  show seqL k (putMs ms (putL Mk.maker x l))=lastM k ms (if x.maker=k then x.seq else seqL k l)
  rw [seq_putMs k ms,seq_putL]
def maxI (a b:Int):Int:=if a≤b then b else a
def bestM (k:Int) (ms:List Mk) (s:Int):Int:=ms.foldl (fun s x=>if x.maker=k then maxI s x.seq else s) s
theorem bestM_snoc (k:Int) (ms:List Mk) (x:Mk) (s:Int):bestM k (ms++[x]) s=if x.maker=k then maxI (bestM k ms s) x.seq else bestM k ms s:=by unfold bestM;rw [List.foldl_append];rfl
theorem last_best {k:Int}:∀ {ms:List Mk} {s:Int},ms.Pairwise (fun x y=>x.maker=y.maker→x.seq<y.seq)→(∀ x∈ms,x.maker=k→s<x.seq)→lastM k ms s=bestM k ms s
 | [],s,_,_=>rfl
 | x::ms,s,hp,hs=>by
  rw [List.pairwise_cons] at hp
  show lastM k ms (if x.maker=k then x.seq else s)=bestM k ms (if x.maker=k then maxI s x.seq else s)
  by_cases h:x.maker=k
  ·have h1:=hs x (by simp) h
   rw [if_pos h,if_pos h,show maxI s x.seq=x.seq from if_pos (by omega)]
   exact last_best hp.2 fun y hy hk=>hp.1 y hy (by omega)
  ·rw [if_neg h,if_neg h]
   exact last_best hp.2 fun y hy hk=>hs y (List.mem_cons_of_mem _ hy) hk
theorem seq_mem {k:Int}:∀ {l:List Mk},seqL k l≠0→(⟨k,seqL k l⟩:Mk)∈l
 | [],h=>absurd rfl h
 | x::r,h=>by
  unfold seqL at h ⊢
  by_cases hx:x.maker=k
  ·rw [if_pos hx]
   subst hx
   exact List.mem_cons_self
  ·rw [if_neg hx] at h ⊢
   exact List.mem_cons_of_mem _ (seq_mem h)
theorem mem_seq:∀ {l:List Mk} {x:Mk},Srt Mk.maker l→x∈l→seqL x.maker l=x.seq
 | y::r,x,hs,hx=>by
  rw [Srt,List.pairwise_cons] at hs
  unfold seqL
  rcases List.mem_cons.1 hx with rfl|hx
  ·rw [if_pos rfl]
  ·have:=hs.1 x hx
   rw [if_neg (by omega),mem_seq hs.2 hx]
def mrk1 (m:Md) (d:Ed) (i:Nat):List Mk:=if 0<bestM ((i:Int)+1) d.marks (seqL ((i:Int)+1) m.M) then [⟨(i:Int)+1,bestM ((i:Int)+1) d.marks (seqL ((i:Int)+1) m.M)⟩] else []
def mrkR (m:Md) (d:Ed) (n:Nat):List Mk:=(List.range n).flatMap (mrk1 m d)
theorem mrkR_step (m:Md) (d:Ed) (n:Nat):mrkR m d (n+1)=mrkR m d n++mrk1 m d n:=by unfold mrkR;rw [List.range_succ,List.flatMap_append];simp
theorem mrkR_len (m:Md) (d:Ed):∀ n,(mrkR m d n).length≤n
 | 0=>Nat.le_refl _
 | n+1=>by
  rw [mrkR_step,List.length_append]
  have:=mrkR_len m d n
  have:(mrk1 m d n).length≤1:=by unfold mrk1;split<;>simp
  omega
theorem mrkR_mem {m:Md} {d:Ed} {n:Nat} {z:Mk}:z∈mrkR m d n↔1≤z.maker∧z.maker≤n∧z.seq=bestM z.maker d.marks (seqL z.maker m.M)∧0<z.seq:=by
 unfold mrkR
 rw [List.mem_flatMap]
 constructor
 ·rintro ⟨i,hi,hz⟩
  rw [List.mem_range] at hi
  unfold mrk1 at hz
  split at hz
  ·rw [List.mem_singleton] at hz
   subst hz
   exact ⟨by show (1:Int)≤i+1;omega,by show (i:Int)+1≤n;omega,rfl,by assumption⟩
  ·cases hz
 ·rintro ⟨h1,h2,h3,h4⟩
  obtain ⟨k,s⟩:=z
  dsimp only at *
  refine ⟨(k-1).toNat,List.mem_range.2 (by omega),?_⟩
  unfold mrk1
  have e:(((k-1).toNat:Nat):Int)+1=k:=by omega
  rw [e,← h3,if_pos h4]
  exact List.mem_singleton.2 rfl
theorem mrkR_srt (m:Md) (d:Ed):∀ n,Srt Mk.maker (mrkR m d n)
 | 0=>List.Pairwise.nil
 | n+1=>by
  rw [mrkR_step,Srt,List.pairwise_append]
  refine ⟨mrkR_srt m d n,?_,fun a ha b hb=>?_⟩
  ·unfold mrk1;split<;>simp
  ·have h1:=(mrkR_mem.1 ha).2.1
   unfold mrk1 at hb
   split at hb
   ·rw [List.mem_singleton] at hb
    subst hb
    show a.maker<(n:Int)+1
    omega
   ·cases hb
def mrks (m:Md) (d:Ed):List Mk:=putMs d.marks m.M
def own1 (m:Md) (d:Ed) (i:Nat):List Ow:=(m.O.filter fun x=>decide (x.agent=(i:Int)+1)&&decide ((i:Int)+1≠d.by_.agent))++(if (i:Int)+1=d.by_.agent then [d.by_] else [])
def ownR (m:Md) (d:Ed) (n:Nat):List Ow:=(List.range n).flatMap (own1 m d)
theorem ownR_step (m:Md) (d:Ed) (n:Nat):ownR m d (n+1)=ownR m d n++own1 m d n:=by unfold ownR;rw [List.range_succ,List.flatMap_append];simp
theorem own1_mem {m:Md} {d:Ed} {i:Nat} {z:Ow}:z∈own1 m d i↔z.agent=(i:Int)+1∧(z=d.by_∨(z∈m.O∧z.agent≠d.by_.agent)):=by
 unfold own1
 rw [List.mem_append,List.mem_filter]
 constructor
 ·rintro (⟨h1,h2⟩|h)
  ·simp only [Bool.and_eq_true,decide_eq_true_eq] at h2
   exact ⟨h2.1,.inr ⟨h1,by rw [h2.1];exact h2.2⟩⟩
  ·split at h
   ·rw [List.mem_singleton] at h
    subst h
    exact ⟨by omega,.inl rfl⟩
   ·cases h
 ·rintro ⟨h1,rfl|⟨h2,h3⟩⟩
  ·exact .inr (by rw [if_pos h1.symm];exact List.mem_singleton.2 rfl)
  ·refine .inl ⟨h2,?_⟩
   simp only [Bool.and_eq_true,decide_eq_true_eq]
   exact ⟨h1,by rw [← h1];exact h3⟩
theorem ownR_mem {m:Md} {d:Ed} {n:Nat} {z:Ow}:z∈ownR m d n↔1≤z.agent∧z.agent≤n∧(z=d.by_∨(z∈m.O∧z.agent≠d.by_.agent)):=by
 unfold ownR
 rw [List.mem_flatMap]
 constructor
 ·rintro ⟨i,hi,hz⟩
  rw [List.mem_range] at hi
  obtain ⟨h1,h2⟩:=own1_mem.1 hz
  exact ⟨by omega,by omega,h2⟩
 ·rintro ⟨h1,h2,h3⟩
  exact ⟨(z.agent-1).toNat,List.mem_range.2 (by omega),own1_mem.2 ⟨by omega,h3⟩⟩
theorem ownR_srt {m:Md} (d:Ed) (hs:Srt Ow.agent m.O):∀ n,Srt Ow.agent (ownR m d n)
 | 0=>List.Pairwise.nil
 | n+1=>by
  rw [ownR_step,Srt,List.pairwise_append]
  refine ⟨ownR_srt d hs n,?_,fun a ha b hb=>?_⟩
  ·unfold own1
   by_cases h:(n:Int)+1=d.by_.agent
   ·rw [if_pos h,List.filter_eq_nil_iff.2 (by intro x _;simp [h])]
    simp
   ·rw [if_neg h,List.append_nil]
    exact hs.filter _
  ·have h1:=(ownR_mem.1 ha).2.1
   have h2:=(own1_mem.1 hb).1
   omega
def owns (m:Md) (d:Ed):List Ow:=putL Ow.agent d.by_ m.O
def appl (m:Md) (d:Ed):Md:=⟨m.gen+1,cutOf m d,fenOf m d,ents m d,mrks m d,owns m d⟩
noncomputable def appE (m:Md) (d:Ed):Int:=if refE m d≠0 then refE m d else if 256<(ents m d).length then 5 else 0
def zeroM:Md:=⟨0,0,0,[],[],[]⟩
end Go.Proofs.YtibnehaibgbliaaGreat.Mf
