/- Laws for the row's walk. -/
import Derived.Test.YtibnehaibgbliaaGreatR20
set_option linter.unusedVariables false
set_option linter.unusedSimpArgs false
open Go.Lib renaming hid → Jh
namespace Go.Proofs.YtibnehaibgbliaaGreat.Mf
open Go.RowKit Go.Proofs.YtibnehaibgbliaaGreat
noncomputable def enC (cut:Int) (x:En):Bool:=enB x&&!decide (x.window<cut)
theorem ris_low (m:Md):risB (enC m.cut) ltE m.E=(risB enB ltE m.E&&!lowB m):=by
 rw [Bool.eq_iff_iff]
 simp only [Bool.and_eq_true,Bool.not_eq_true']
 unfold risB lowB
 rw [decide_eq_true_iff,decide_eq_true_iff,List.any_eq_false]
 unfold RisP enC
 simp only [Bool.and_eq_true,Bool.not_eq_true',decide_eq_false_iff_not,decide_eq_true_eq]
 constructor
 ·intro h
  refine ⟨fun i hi=>⟨(h i hi).1.1,(h i hi).2⟩,fun x hx=>?_⟩
  obtain ⟨i,hi,rfl⟩:=mem_gt hx
  exact (h i hi).1.2
 ·intro h i hi
  exact ⟨⟨(h.1 i hi).1,h.2 _ (gt_mem hi)⟩,(h.1 i hi).2⟩
set_option maxRecDepth 100000 in
set_option maxHeartbeats 3200000 in
theorem rightR_any (w:World) {B:Nat} {m:Md} {p:Pl} (h:Man w B m p) (hB:B≤w.heap.size):Calls Tryz.prog 18 #[mdV m p] w fun e w'=>e=.returned (.bool (rightB m))∧Below w.heap.size w w':=by
 have HB0:Hid (∀ W,Below (w.heap.size+1) (w.alloc (.cells #[.int .i64 m.gen,.int .i64 m.cut,.int .i64 m.fence,.slice p.AE m.E.length p.cE,.slice p.AM m.M.length p.cM,.slice p.AO m.O.length p.cO] 53)) W→Below w.heap.size w W∧w.heap.size+1≤W.heap.size):=Jh fun W hW=>⟨((Below.refl w.heap.size w).alloc (Nat.le_refl _) _).trans (hW.mono (by omega)),by have:=hW.size;rw [World.size_alloc] at this;exact this⟩
 have HK:Hid (∀ W,Below (w.heap.size+1) (w.alloc (.cells #[.int .i64 m.gen,.int .i64 m.cut,.int .i64 m.fence,.slice p.AE m.E.length p.cE,.slice p.AM m.M.length p.cM,.slice p.AO m.O.length p.cO] 53)) W→W.cell? ⟨w.heap.size,0,none⟩=some (.int .i64 m.gen)∧W.cell? ⟨w.heap.size,1,none⟩=some (.int .i64 m.cut)∧W.cell? ⟨w.heap.size,2,none⟩=some (.int .i64 m.fence)∧W.cell? ⟨w.heap.size,3,none⟩=some (.slice p.AE m.E.length p.cE)∧W.cell? ⟨w.heap.size,4,none⟩=some (.slice p.AM m.M.length p.cM)∧W.cell? ⟨w.heap.size,5,none⟩=some (.slice p.AO m.O.length p.cO)):=Jh fun W hW=>by
  have hb:=(Blk.new w 53 #[.int .i64 m.gen,.int .i64 m.cut,.int .i64 m.fence,.slice p.AE m.E.length p.cE,.slice p.AM m.M.length p.cM,.slice p.AO m.O.length p.cO]).below hW (Nat.lt_succ_self _)
  exact ⟨hb.cell 0,hb.cell 1,hb.cell 2,hb.cell 3,hb.cell 4,hb.cell 5⟩
 have HRE:=Jh fun W (hW:Below w.heap.size w W)=>h.re.below (hW.mono hB)
 have HRO:=Jh fun W (hW:Below w.heap.size w W)=>h.ro.below (hW.mono hB)
 have HM:=Jh fun W (hW:Below w.heap.size w W)=>marksR_calls W (c:=p.cM) (h.rm.below (hW.mono hB)) (by have:=hW.size;omega) h.lm
 have HX:=Jh fun x (hx:x∈m.E) W=>entryR_calls x W (h.ok x hx) (h.ok x hx).part
 have HN:=Jh numR_calls
 have HD:Hid (rightB m=(numB m.gen 0&&numB m.cut 0&&numB m.fence 0&&decide (m.E.length≤256)&&risB mkB ltM m.M&&risB (enC m.cut) ltE m.E&&risB owB ltO m.O)):=Jh (by
  rw [ris_low]
  unfold rightB
  cases numB m.gen 0<;>cases numB m.cut 0<;>cases numB m.fence 0<;>cases decide (m.E.length≤256)<;>cases lowB m<;>cases risB enB ltE m.E<;>cases risB mkB ltM m.M<;>rfl)
 have HC:Hid (∀ x y:En,(!Op.bytesLess x.key.toList y.key.toList)=!ltE x y):=Jh fun x y=>by rw [← ltS_less];rfl
 have HCO:Hid (∀ x y:Ow,decide (y.agent≤x.agent)=!ltO x y):=Jh fun x y=>by unfold ltO;by_cases h:x.agent<y.agent<;>simp [h]<;>omega
 have hle:=h.le
 have hlo:=h.lo
 clear h
 generalize rightB m=out at *
 generalize hrm:risB mkB ltM m.M=rm at *
 clear hrm
 have hb0:Below (w.heap.size+1) (w.alloc (.cells #[.int .i64 m.gen,.int .i64 m.cut,.int .i64 m.fence,.slice p.AE m.E.length p.cE,.slice p.AM m.M.length p.cM,.slice p.AO m.O.length p.cO] 53)) (w.alloc (.cells #[.int .i64 m.gen,.int .i64 m.cut,.int .i64 m.fence,.slice p.AE m.E.length p.cE,.slice p.AM m.M.length p.cM,.slice p.AO m.O.length p.cO] 53)):=Below.refl _ _
 have HB00:=Jh hb0
 obtain ⟨q0,q1,q2,q3,q4,q5⟩:=HK.out _ hb0
 clear hb0
 by_cases e0:numB m.gen 0=true
 ·have te0:numB m.gen 0=true:=e0
  by_cases e1:numB m.cut 0=true
  ·have te1:numB m.cut 0=true:=e1
   by_cases e2:numB m.fence 0=true
   ·have te2:numB m.fence 0=true:=e2
    by_cases e3:m.E.length≤256
    ·have te3:decide ((256:Int)<(m.E.length:Int))=false:=dcf (by omega)
     by_cases e4:rm=true
     ·have te4:rm=true:=e4
      have HD2:Hid (out=(risB (enC m.cut) ltE m.E&&risB owB ltO m.O)):=Jh (by rw [HD.out,te0,te1,te2,dct e3,te4];rfl)
      clear HD
      subst e4
      go_enter Tryz.func18,Tryz.ntmps18
      go_wp2_with first|(go_at_call 35;refine (HN.out _ _ _).mono ?_;rintro e w9 ⟨rfl,rfl⟩)|(go_at_call 36;refine (HM.out _ (HB0.out _ HB00.out).1).mono ?_;rintro e w1 ⟨rfl,hb1'⟩;have hb1:Below (w.heap.size+1) (w.alloc (.cells #[.int .i64 m.gen,.int .i64 m.cut,.int .i64 m.fence,.slice p.AE m.E.length p.cE,.slice p.AM m.M.length p.cM,.slice p.AO m.O.length p.cO] 53)) w1:=HB00.out.trans (hb1'.mono (HB0.out _ HB00.out).2);obtain ⟨r0,r1,r2,r3,r4,r5⟩:=HK.out w1 hb1;clear hb1')
      clear HM HN
      generalize hwm:w.alloc (.cells #[.int .i64 m.gen,.int .i64 m.cut,.int .i64 m.fence,.slice p.AE m.E.length p.cE,.slice p.AM m.M.length p.cM,.slice p.AO m.O.length p.cO] 53)=wm at *
      clear hwm HB00
      obtain ⟨AE,cE,AM,cM,AO,cO⟩:=p
      dsimp only at *
      go_loopw [38] (fun i wr=>∃ k:Nat,k≤m.E.length∧i=.int .i64 (k:Int)∧Hid (∀ i,i<k→enC m.cut (gt m.E i)=true∧(0<i→ltE (gt m.E (i-1)) (gt m.E i)=true))∧Below (w.heap.size+1) wm wr) (fun i _=>m.E.length-(intOf i).toNat)
      case atStart=>exact ⟨0,Nat.zero_le _,rfl,Jh fun i hi=>absurd hi (by omega),hb1⟩
      case round =>
       obtain ⟨k,hk,rfl,hall,hbel⟩:=hrel
       by_cases hlt:k<m.E.length
       ·obtain ⟨hb00,hsz⟩:=HB0.out wr hbel
        have hr:=HRE.out wr hb00
        obtain ⟨b,off,rfl,hbB⟩:=row_addr hr (by omega)
        have HKW:=Jh fun W (hW:Below wr.heap.size wr W)=>HK.out W (hbel.trans (hW.mono hsz))
        have HG:Hid (∀ W,Below wr.heap.size wr W→∀ i,i<m.E.length→W.cell? ⟨b,off+i*9,none⟩=some (.string (gt m.E i).key)∧W.cell? ⟨b,off+i*9+1,none⟩=some (.int .i64 (gt m.E i).window)∧W.cell? ⟨b,off+i*9+2,none⟩=some (.string (gt m.E i).part)∧W.cell? ⟨b,off+i*9+3,none⟩=some (.int .i64 (gt m.E i).first)∧W.cell? ⟨b,off+i*9+4,none⟩=some (.int .i64 (gt m.E i).last)∧W.cell? ⟨b,off+i*9+5,none⟩=some (.int .i64 (gt m.E i).rows)∧W.cell? ⟨b,off+i*9+6,none⟩=some (.int .i64 (gt m.E i).size)∧W.cell? ⟨b,off+i*9+7,none⟩=some (.int .u32 (gt m.E i).sum)∧W.cell? ⟨b,off+i*9+8,none⟩=some (.int .i64 (gt m.E i).born)):=Jh fun W hW i hi=>⟨row_cell ecs_len (hr.below (hW.mono (by omega))) hi (j:=0) rfl,row_cell ecs_len (hr.below (hW.mono (by omega))) hi (j:=1) rfl,row_cell ecs_len (hr.below (hW.mono (by omega))) hi (j:=2) rfl,row_cell ecs_len (hr.below (hW.mono (by omega))) hi (j:=3) rfl,row_cell ecs_len (hr.below (hW.mono (by omega))) hi (j:=4) rfl,row_cell ecs_len (hr.below (hW.mono (by omega))) hi (j:=5) rfl,row_cell ecs_len (hr.below (hW.mono (by omega))) hi (j:=6) rfl,row_cell ecs_len (hr.below (hW.mono (by omega))) hi (j:=7) rfl,row_cell ecs_len (hr.below (hW.mono (by omega))) hi (j:=8) rfl⟩
        obtain ⟨p0,p1,p2,p3,p4,p5,p6,p7,p8⟩:=HG.out wr (Below.refl _ _) k hlt
        have HB1:=Jh ((Below.refl wr.heap.size wr).alloc (Nat.le_refl _) (.cells #[.string (gt m.E k).key,.int .i64 (gt m.E k).window,.string (gt m.E k).part,.int .i64 (gt m.E k).first,.int .i64 (gt m.E k).last,.int .i64 (gt m.E k).rows,.int .i64 (gt m.E k).size,.int .u32 (gt m.E k).sum,.int .i64 (gt m.E k).born] 85))
        have HR2:=Jh fun W=>HX.out (gt m.E k) (gt_mem hlt) W
        have HBL:Hid (∀ W,Below (wr.heap.size+1) (wr.alloc (.cells #[.string (gt m.E k).key,.int .i64 (gt m.E k).window,.string (gt m.E k).part,.int .i64 (gt m.E k).first,.int .i64 (gt m.E k).last,.int .i64 (gt m.E k).rows,.int .i64 (gt m.E k).size,.int .u32 (gt m.E k).sum,.int .i64 (gt m.E k).born] 85)) W→(W.cell? ⟨wr.heap.size,0,none⟩=some (.string (gt m.E k).key)∧W.cell? ⟨wr.heap.size,1,none⟩=some (.int .i64 (gt m.E k).window)∧W.cell? ⟨wr.heap.size,2,none⟩=some (.string (gt m.E k).part)∧W.cell? ⟨wr.heap.size,3,none⟩=some (.int .i64 (gt m.E k).first)∧W.cell? ⟨wr.heap.size,4,none⟩=some (.int .i64 (gt m.E k).last)∧W.cell? ⟨wr.heap.size,5,none⟩=some (.int .i64 (gt m.E k).rows)∧W.cell? ⟨wr.heap.size,6,none⟩=some (.int .i64 (gt m.E k).size)∧W.cell? ⟨wr.heap.size,7,none⟩=some (.int .u32 (gt m.E k).sum)∧W.cell? ⟨wr.heap.size,8,none⟩=some (.int .i64 (gt m.E k).born))∧W.cell? ⟨w.heap.size,1,none⟩=some (.int .i64 m.cut)∧W.cell? ⟨w.heap.size,3,none⟩=some (.slice (some ⟨b,off,none⟩) m.E.length cE)):=Jh fun W hW=>by
         have hb:=(Blk.new wr 85 #[.string (gt m.E k).key,.int .i64 (gt m.E k).window,.string (gt m.E k).part,.int .i64 (gt m.E k).first,.int .i64 (gt m.E k).last,.int .i64 (gt m.E k).rows,.int .i64 (gt m.E k).size,.int .u32 (gt m.E k).sum,.int .i64 (gt m.E k).born]).below hW (Nat.lt_succ_self _)
         have hq:=HKW.out W (HB1.out.trans (hW.mono (by omega)))
         exact ⟨⟨hb.cell 0,hb.cell 1,hb.cell 2,hb.cell 3,hb.cell 4,hb.cell 5,hb.cell 6,hb.cell 7,hb.cell 8⟩,hq.2.1,hq.2.2.2.1⟩
        have Hno1:=Jh (fun hh=>ris_no1 (r:=enC m.cut) (lt:=ltE) hlt hh)
        have Hno2:=Jh (fun hp hh=>ris_no2 (r:=enC m.cut) (lt:=ltE) hlt hp hh)
        have Hst:=Jh (fun h1 h2=>ris_step (r:=enC m.cut) (lt:=ltE) hall.out h1 h2)
        have Hen:Hid (enC m.cut (gt m.E k)=(enB (gt m.E k)&&!decide ((gt m.E k).window<m.cut))):=Jh rfl
        have HC2:=Jh (HC.out (gt m.E (k-1)) (gt m.E k))
        have HP:=Jh fun W hW (hp:0<k)=>HG.out W hW (k-1) (by omega)
        have HHD:=Jh (fun (h:risB (enC m.cut) ltE m.E=false)=>show out=false by rw [HD2.out,h];rfl)
        clear hr HG hall HC HX HD2 HRO HRE HCO HK HKW hb00
        generalize hxx:gt m.E k=x at *
        generalize gt m.E (k-1)=y at *
        clear hxx
        have n1:IntKind.i64.wrap ((k:Int)-1)=(k:Int)-1:=IntWalk.i64_in _ (by omega)
        cases hx:enB x
        ·have HV:=Jh (HHD.out (Hno1.out (by rw [Hen.out,hx];rfl)))
         rw [hx] at HR2
         clear hx Hno1 Hno2 Hst HC2 HP Hen HHD
         go_wp2_with fail
         refine wp_region_T 99 (fun w'=>(w'.cell? ⟨wr.heap.size,0,none⟩=some (.string x.key)∧w'.cell? ⟨wr.heap.size,1,none⟩=some (.int .i64 x.window)∧w'.cell? ⟨wr.heap.size,2,none⟩=some (.string x.part)∧w'.cell? ⟨wr.heap.size,3,none⟩=some (.int .i64 x.first)∧w'.cell? ⟨wr.heap.size,4,none⟩=some (.int .i64 x.last)∧w'.cell? ⟨wr.heap.size,5,none⟩=some (.int .i64 x.rows)∧w'.cell? ⟨wr.heap.size,6,none⟩=some (.int .i64 x.size)∧w'.cell? ⟨wr.heap.size,7,none⟩=some (.int .u32 x.sum)∧w'.cell? ⟨wr.heap.size,8,none⟩=some (.int .i64 x.born))∧w'.cell? ⟨w.heap.size,1,none⟩=some (.int .i64 m.cut)∧w'.cell? ⟨w.heap.size,3,none⟩=some (.slice (some ⟨b,off,none⟩) m.E.length cE)) (by kernel_rfl) (HBL.out _ (below_drewN_ (Below.refl _ _) 1)) (fun hHeld=>?_)
         apply tkT 0
         refine wpAnyT_one (i:=1) (by kernel_rfl) rfl (fun K hK=>?_);go_simp
         refine (HR2.out _).mono ?_
         rintro e wa ⟨rfl,hba⟩
         have hea0:Below (wr.heap.size+1) (wr.alloc (.cells #[.string x.key,.int .i64 x.window,.string x.part,.int .i64 x.first,.int .i64 x.last,.int .i64 x.rows,.int .i64 x.size,.int .u32 x.sum,.int .i64 x.born] 85)) wa:=(below_drewN_ (Below.refl _ _) 1).trans (hba.mono (by simp [World.drew]))
         have hew:Below (w.heap.size+1) wm wa:=hbel.trans ((HB1.out.trans (hea0.mono (by omega))).mono hsz)
         have hHa:=HBL.out _ hea0
         refine hK.out _ _ (fun _=>hHa) ?_
         clear hK K hHeld hba
         apply tkT 2
         apply tkT 3
         apply tuT 4
         apply tuT 5
         apply tuT 6
         apply tuT 7
         apply tuT 8
         apply tkT 9
         apply tkT 10
         apply tuT 11
         apply tuT 12
         apply tuT 13
         apply tuT 14
         apply tuT 15
         apply tuT 16
         apply tuT 17
         apply tuT 18
         apply tuT 19
         apply tuT 20
         apply tuT 21
         apply tuT 22
         apply tuT 23
         apply tuT 24
         apply tkT 25
         refine wpAnyT_done (by kernel_rfl) ?_ _
         go_wp2
         go_ret
         exact ⟨by rw [HV.out];rfl,(HB0.out _ hew).1⟩
        rw [hx] at HR2
        by_cases hwc:x.window<m.cut
        ·have HV:=Jh (HHD.out (Hno1.out (by rw [Hen.out,hx,dct hwc];rfl)))
         have dw:decide (x.window<m.cut)=true:=dct hwc
         clear hx Hno1 Hno2 Hst HC2 HP Hen HHD
         go_wp2_with fail
         refine wp_region_T 99 (fun w'=>(w'.cell? ⟨wr.heap.size,0,none⟩=some (.string x.key)∧w'.cell? ⟨wr.heap.size,1,none⟩=some (.int .i64 x.window)∧w'.cell? ⟨wr.heap.size,2,none⟩=some (.string x.part)∧w'.cell? ⟨wr.heap.size,3,none⟩=some (.int .i64 x.first)∧w'.cell? ⟨wr.heap.size,4,none⟩=some (.int .i64 x.last)∧w'.cell? ⟨wr.heap.size,5,none⟩=some (.int .i64 x.rows)∧w'.cell? ⟨wr.heap.size,6,none⟩=some (.int .i64 x.size)∧w'.cell? ⟨wr.heap.size,7,none⟩=some (.int .u32 x.sum)∧w'.cell? ⟨wr.heap.size,8,none⟩=some (.int .i64 x.born))∧w'.cell? ⟨w.heap.size,1,none⟩=some (.int .i64 m.cut)∧w'.cell? ⟨w.heap.size,3,none⟩=some (.slice (some ⟨b,off,none⟩) m.E.length cE)) (by kernel_rfl) (HBL.out _ (below_drewN_ (Below.refl _ _) 1)) (fun hHeld=>?_)
         apply tkT 0
         refine wpAnyT_one (i:=1) (by kernel_rfl) rfl (fun K hK=>?_);go_simp
         refine (HR2.out _).mono ?_
         rintro e wa ⟨rfl,hba⟩
         have hea0:Below (wr.heap.size+1) (wr.alloc (.cells #[.string x.key,.int .i64 x.window,.string x.part,.int .i64 x.first,.int .i64 x.last,.int .i64 x.rows,.int .i64 x.size,.int .u32 x.sum,.int .i64 x.born] 85)) wa:=(below_drewN_ (Below.refl _ _) 1).trans (hba.mono (by simp [World.drew]))
         have hew:Below (w.heap.size+1) wm wa:=hbel.trans ((HB1.out.trans (hea0.mono (by omega))).mono hsz)
         have hHa:=HBL.out _ hea0
         refine hK.out _ _ (fun _=>hHa) ?_
         clear hK K hHeld hba
         apply tkT 2
         apply tkT 3
         apply tkT 4
         apply tkT 5
         apply tkT 6
         apply tkT 7
         apply tkT 8
         apply tkT 9
         apply tkT 10
         apply tuT 11
         apply tuT 12
         apply tuT 13
         apply tuT 14
         apply tuT 15
         apply tuT 16
         apply tuT 17
         apply tuT 18
         apply tuT 19
         apply tuT 20
         apply tuT 21
         apply tuT 22
         apply tuT 23
         apply tuT 24
         apply tkT 25
         refine wpAnyT_done (by kernel_rfl) ?_ _
         go_wp2
         go_ret
         exact ⟨by rw [HV.out];rfl,(HB0.out _ hew).1⟩
        have hec:enC m.cut x=true:=by rw [Hen.out,hx,dcf hwc];rfl
        have dw:decide (x.window<m.cut)=false:=dcf hwc
        clear Hen
        by_cases hp:0<k
        ·have dk:decide ((0:Int)<(k:Int))=true:=dct (by omega)
         have k0:(0:Int)≤(k:Int)-1:=by omega
         have k9:(k:Int)-1<(m.E.length:Int):=by omega
         have k1:(1:Int)≤(k:Int):=by omega
         have k2:¬ (k:Int)<1:=by omega
         have e1:((k:Int)-1).toNat=k-1:=by omega
         have HP2:Hid (∀ W,Below (wr.heap.size+1) (wr.alloc (.cells #[.string x.key,.int .i64 x.window,.string x.part,.int .i64 x.first,.int .i64 x.last,.int .i64 x.rows,.int .i64 x.size,.int .u32 x.sum,.int .i64 x.born] 85)) W→((W.cell? ⟨wr.heap.size,0,none⟩=some (.string x.key)∧W.cell? ⟨wr.heap.size,1,none⟩=some (.int .i64 x.window)∧W.cell? ⟨wr.heap.size,2,none⟩=some (.string x.part)∧W.cell? ⟨wr.heap.size,3,none⟩=some (.int .i64 x.first)∧W.cell? ⟨wr.heap.size,4,none⟩=some (.int .i64 x.last)∧W.cell? ⟨wr.heap.size,5,none⟩=some (.int .i64 x.rows)∧W.cell? ⟨wr.heap.size,6,none⟩=some (.int .i64 x.size)∧W.cell? ⟨wr.heap.size,7,none⟩=some (.int .u32 x.sum)∧W.cell? ⟨wr.heap.size,8,none⟩=some (.int .i64 x.born))∧W.cell? ⟨w.heap.size,1,none⟩=some (.int .i64 m.cut)∧W.cell? ⟨w.heap.size,3,none⟩=some (.slice (some ⟨b,off,none⟩) m.E.length cE))∧W.cell? ⟨b,off+(k-1)*9,none⟩=some (.string y.key)∧W.cell? ⟨b,off+(k-1)*9+1,none⟩=some (.int .i64 y.window)∧W.cell? ⟨b,off+(k-1)*9+2,none⟩=some (.string y.part)∧W.cell? ⟨b,off+(k-1)*9+3,none⟩=some (.int .i64 y.first)∧W.cell? ⟨b,off+(k-1)*9+4,none⟩=some (.int .i64 y.last)∧W.cell? ⟨b,off+(k-1)*9+5,none⟩=some (.int .i64 y.rows)∧W.cell? ⟨b,off+(k-1)*9+6,none⟩=some (.int .i64 y.size)∧W.cell? ⟨b,off+(k-1)*9+7,none⟩=some (.int .u32 y.sum)∧W.cell? ⟨b,off+(k-1)*9+8,none⟩=some (.int .i64 y.born)):=Jh fun W hW=>⟨HBL.out W hW,HP.out W (HB1.out.trans (hW.mono (by omega))) hp⟩
         cases hlt2:ltE y x
         ·have HV:=Jh (HHD.out (Hno2.out hp hlt2))
          have HC3:=Jh HC2.out
          rw [hlt2] at HC3
          clear hx Hno1 Hno2 Hst HC2 HP HBL hlt2 HHD hec
          go_wp2_with fail
          refine wp_region_T 99 (fun w'=>((w'.cell? ⟨wr.heap.size,0,none⟩=some (.string x.key)∧w'.cell? ⟨wr.heap.size,1,none⟩=some (.int .i64 x.window)∧w'.cell? ⟨wr.heap.size,2,none⟩=some (.string x.part)∧w'.cell? ⟨wr.heap.size,3,none⟩=some (.int .i64 x.first)∧w'.cell? ⟨wr.heap.size,4,none⟩=some (.int .i64 x.last)∧w'.cell? ⟨wr.heap.size,5,none⟩=some (.int .i64 x.rows)∧w'.cell? ⟨wr.heap.size,6,none⟩=some (.int .i64 x.size)∧w'.cell? ⟨wr.heap.size,7,none⟩=some (.int .u32 x.sum)∧w'.cell? ⟨wr.heap.size,8,none⟩=some (.int .i64 x.born))∧w'.cell? ⟨w.heap.size,1,none⟩=some (.int .i64 m.cut)∧w'.cell? ⟨w.heap.size,3,none⟩=some (.slice (some ⟨b,off,none⟩) m.E.length cE))∧w'.cell? ⟨b,off+(k-1)*9,none⟩=some (.string y.key)∧w'.cell? ⟨b,off+(k-1)*9+1,none⟩=some (.int .i64 y.window)∧w'.cell? ⟨b,off+(k-1)*9+2,none⟩=some (.string y.part)∧w'.cell? ⟨b,off+(k-1)*9+3,none⟩=some (.int .i64 y.first)∧w'.cell? ⟨b,off+(k-1)*9+4,none⟩=some (.int .i64 y.last)∧w'.cell? ⟨b,off+(k-1)*9+5,none⟩=some (.int .i64 y.rows)∧w'.cell? ⟨b,off+(k-1)*9+6,none⟩=some (.int .i64 y.size)∧w'.cell? ⟨b,off+(k-1)*9+7,none⟩=some (.int .u32 y.sum)∧w'.cell? ⟨b,off+(k-1)*9+8,none⟩=some (.int .i64 y.born)) (by kernel_rfl) (HP2.out _ (below_drewN_ (Below.refl _ _) 1)) (fun hHeld=>?_)
          apply tkT 0
          refine wpAnyT_one (i:=1) (by kernel_rfl) rfl (fun K hK=>?_);go_simp
          refine (HR2.out _).mono ?_
          rintro e wa ⟨rfl,hba⟩
          have hea0:Below (wr.heap.size+1) (wr.alloc (.cells #[.string x.key,.int .i64 x.window,.string x.part,.int .i64 x.first,.int .i64 x.last,.int .i64 x.rows,.int .i64 x.size,.int .u32 x.sum,.int .i64 x.born] 85)) wa:=(below_drewN_ (Below.refl _ _) 1).trans (hba.mono (by simp [World.drew]))
          have hew:Below (w.heap.size+1) wm wa:=hbel.trans ((HB1.out.trans (hea0.mono (by omega))).mono hsz)
          have hHa:=HP2.out _ hea0
          refine hK.out _ _ (fun _=>hHa) ?_
          clear hK K hHeld hba
          have HC4:=HC3.out
          apply tkT 2
          apply tkT 3
          apply tkT 4
          apply tkT 5
          apply tkT 6
          apply tkT 7
          apply tkT 8
          apply tkT 9
          apply tkT 10
          apply tkT 11
          apply tkT 12
          apply tkT 13
          apply tkT 14
          apply tkT 15
          apply tkT 16
          apply tkT 17
          apply tkT (v:=.pointer (some ⟨b,off+(k-1)*9,none⟩)) 18
          apply tkT 19
          apply tkT 20
          apply tkT 21
          apply tkT 22
          apply tkT 23
          apply tkT 24
          apply tkT 25
          refine wpAnyT_done (by kernel_rfl) ?_ _
          go_wp2
          go_ret
          exact ⟨by rw [HV.out];rfl,(HB0.out _ hew).1⟩
         ·have HS:=Jh (Hst.out hec (fun _=>hlt2))
          have HC3:=Jh HC2.out
          rw [hlt2] at HC3
          clear hx Hno1 Hno2 Hst HC2 HP HBL hlt2 HHD hec
          go_wp2_with fail
          refine wp_region_T 99 (fun w'=>((w'.cell? ⟨wr.heap.size,0,none⟩=some (.string x.key)∧w'.cell? ⟨wr.heap.size,1,none⟩=some (.int .i64 x.window)∧w'.cell? ⟨wr.heap.size,2,none⟩=some (.string x.part)∧w'.cell? ⟨wr.heap.size,3,none⟩=some (.int .i64 x.first)∧w'.cell? ⟨wr.heap.size,4,none⟩=some (.int .i64 x.last)∧w'.cell? ⟨wr.heap.size,5,none⟩=some (.int .i64 x.rows)∧w'.cell? ⟨wr.heap.size,6,none⟩=some (.int .i64 x.size)∧w'.cell? ⟨wr.heap.size,7,none⟩=some (.int .u32 x.sum)∧w'.cell? ⟨wr.heap.size,8,none⟩=some (.int .i64 x.born))∧w'.cell? ⟨w.heap.size,1,none⟩=some (.int .i64 m.cut)∧w'.cell? ⟨w.heap.size,3,none⟩=some (.slice (some ⟨b,off,none⟩) m.E.length cE))∧w'.cell? ⟨b,off+(k-1)*9,none⟩=some (.string y.key)∧w'.cell? ⟨b,off+(k-1)*9+1,none⟩=some (.int .i64 y.window)∧w'.cell? ⟨b,off+(k-1)*9+2,none⟩=some (.string y.part)∧w'.cell? ⟨b,off+(k-1)*9+3,none⟩=some (.int .i64 y.first)∧w'.cell? ⟨b,off+(k-1)*9+4,none⟩=some (.int .i64 y.last)∧w'.cell? ⟨b,off+(k-1)*9+5,none⟩=some (.int .i64 y.rows)∧w'.cell? ⟨b,off+(k-1)*9+6,none⟩=some (.int .i64 y.size)∧w'.cell? ⟨b,off+(k-1)*9+7,none⟩=some (.int .u32 y.sum)∧w'.cell? ⟨b,off+(k-1)*9+8,none⟩=some (.int .i64 y.born)) (by kernel_rfl) (HP2.out _ (below_drewN_ (Below.refl _ _) 1)) (fun hHeld=>?_)
          apply tkT 0
          refine wpAnyT_one (i:=1) (by kernel_rfl) rfl (fun K hK=>?_);go_simp
          refine (HR2.out _).mono ?_
          rintro e wa ⟨rfl,hba⟩
          have hea0:Below (wr.heap.size+1) (wr.alloc (.cells #[.string x.key,.int .i64 x.window,.string x.part,.int .i64 x.first,.int .i64 x.last,.int .i64 x.rows,.int .i64 x.size,.int .u32 x.sum,.int .i64 x.born] 85)) wa:=(below_drewN_ (Below.refl _ _) 1).trans (hba.mono (by simp [World.drew]))
          have hew:Below (w.heap.size+1) wm wa:=hbel.trans ((HB1.out.trans (hea0.mono (by omega))).mono hsz)
          have hHa:=HP2.out _ hea0
          refine hK.out _ _ (fun _=>hHa) ?_
          clear hK K hHeld hba
          have HC4:=HC3.out
          apply tkT 2
          apply tkT 3
          apply tkT 4
          apply tkT 5
          apply tkT 6
          apply tkT 7
          apply tkT 8
          apply tkT 9
          apply tkT 10
          apply tkT 11
          apply tkT 12
          apply tkT 13
          apply tkT 14
          apply tkT 15
          apply tkT 16
          apply tkT 17
          apply tkT (v:=.pointer (some ⟨b,off+(k-1)*9,none⟩)) 18
          apply tkT 19
          apply tkT 20
          apply tkT 21
          apply tkT 22
          apply tkT 23
          apply tkT 24
          apply tkT 25
          refine wpAnyT_done (by kernel_rfl) ?_ _
          go_wp2
          go_roundw
          case rel=>exact ⟨k+1,by omega,by go_num,HS,hew⟩
          case measure=>simp [intOf];omega
        ·have dk:decide ((0:Int)<(k:Int))=false:=dcf (by omega)
         have HS:=Jh (Hst.out hec (fun h=>absurd h hp))
         clear hx Hno1 Hno2 Hst HC2 HP HHD hec
         go_wp2_with fail
         refine wp_region_T 99 (fun w'=>(w'.cell? ⟨wr.heap.size,0,none⟩=some (.string x.key)∧w'.cell? ⟨wr.heap.size,1,none⟩=some (.int .i64 x.window)∧w'.cell? ⟨wr.heap.size,2,none⟩=some (.string x.part)∧w'.cell? ⟨wr.heap.size,3,none⟩=some (.int .i64 x.first)∧w'.cell? ⟨wr.heap.size,4,none⟩=some (.int .i64 x.last)∧w'.cell? ⟨wr.heap.size,5,none⟩=some (.int .i64 x.rows)∧w'.cell? ⟨wr.heap.size,6,none⟩=some (.int .i64 x.size)∧w'.cell? ⟨wr.heap.size,7,none⟩=some (.int .u32 x.sum)∧w'.cell? ⟨wr.heap.size,8,none⟩=some (.int .i64 x.born))∧w'.cell? ⟨w.heap.size,1,none⟩=some (.int .i64 m.cut)∧w'.cell? ⟨w.heap.size,3,none⟩=some (.slice (some ⟨b,off,none⟩) m.E.length cE)) (by kernel_rfl) (HBL.out _ (below_drewN_ (Below.refl _ _) 1)) (fun hHeld=>?_)
         apply tkT 0
         refine wpAnyT_one (i:=1) (by kernel_rfl) rfl (fun K hK=>?_);go_simp
         refine (HR2.out _).mono ?_
         rintro e wa ⟨rfl,hba⟩
         have hea0:Below (wr.heap.size+1) (wr.alloc (.cells #[.string x.key,.int .i64 x.window,.string x.part,.int .i64 x.first,.int .i64 x.last,.int .i64 x.rows,.int .i64 x.size,.int .u32 x.sum,.int .i64 x.born] 85)) wa:=(below_drewN_ (Below.refl _ _) 1).trans (hba.mono (by simp [World.drew]))
         have hew:Below (w.heap.size+1) wm wa:=hbel.trans ((HB1.out.trans (hea0.mono (by omega))).mono hsz)
         have hHa:=HBL.out _ hea0
         refine hK.out _ _ (fun _=>hHa) ?_
         clear hK K hHeld hba
         apply tkT 2
         apply tkT 3
         apply tkT 4
         apply tkT 5
         apply tkT 6
         apply tkT 7
         apply tkT 8
         apply tkT 9
         apply tkT 10
         apply tkT 11
         apply tkT 12
         apply tkT 13
         apply tuT 14
         apply tuT 15
         apply tuT 16
         apply tuT 17
         apply tuT 18
         apply tuT 19
         apply tuT 20
         apply tuT 21
         apply tuT 22
         apply tuT 23
         apply tkT 24
         apply tkT 25
         refine wpAnyT_done (by kernel_rfl) ?_ _
         go_wp2
         go_roundw
         case rel=>exact ⟨k+1,by omega,by go_num,HS,hew⟩
         case measure=>simp [intOf];omega
       ·obtain rfl:k=m.E.length:=by omega
        have HD3:Hid (out=risB owB ltO m.O):=Jh (by rw [HD2.out,ris_yes hall.out];rfl)
        obtain ⟨s0,s1,s2,s3,s4,s5⟩:=HK.out wr hbel
        obtain ⟨wo,rfl⟩:∃ wo:World,wo=wr:=⟨_,rfl⟩
        clear hall HD2 HX HC HRE hb1 q0 q1 q2 q3 q4 q5 r0 r1 r2 r3 r4 r5
        go_wp2
        go_loopw [73] (fun i wr=>∃ k:Nat,k≤m.O.length∧i=.int .i64 (k:Int)∧Hid (∀ i,i<k→owB (gt m.O i)=true∧(0<i→ltO (gt m.O (i-1)) (gt m.O i)=true))∧Below (w.heap.size+1) wm wr) (fun i _=>m.O.length-(intOf i).toNat)
        case atStart=>exact ⟨0,Nat.zero_le _,rfl,Jh fun i hi=>absurd hi (by omega),hbel⟩
        case round =>
         clear hbel s0 s1 s2 s3 s4 s5
         obtain ⟨k,hk,rfl,hall,hbel⟩:=hrel
         by_cases hlt:k<m.O.length
         ·obtain ⟨hb00,hsz⟩:=HB0.out wr hbel
          have hr:=HRO.out wr hb00
          obtain ⟨b,off,rfl,hbB⟩:=row_addr hr (by omega)
          have HKW:=Jh fun W (hW:Below wr.heap.size wr W)=>HK.out W (hbel.trans (hW.mono hsz))
          have HG:Hid (∀ W,Below wr.heap.size wr W→∀ i,i<m.O.length→W.cell? ⟨b,off+i*3,none⟩=some (.int .i64 (gt m.O i).agent)∧W.cell? ⟨b,off+i*3+1,none⟩=some (.int .i64 (gt m.O i).life)∧W.cell? ⟨b,off+i*3+2,none⟩=some (.int .i64 (gt m.O i).count)):=Jh fun W hW i hi=>⟨row_cell ocs_len (hr.below (hW.mono (by omega))) hi (j:=0) rfl,row_cell ocs_len (hr.below (hW.mono (by omega))) hi (j:=1) rfl,row_cell ocs_len (hr.below (hW.mono (by omega))) hi (j:=2) rfl⟩
          obtain ⟨p0,p1,p2⟩:=HG.out wr (Below.refl _ _) k hlt
          have HB1:=Jh ((Below.refl wr.heap.size wr).alloc (Nat.le_refl _) (.cells #[.int .i64 (gt m.O k).agent,.int .i64 (gt m.O k).life,.int .i64 (gt m.O k).count] 26))
          have HR2:=Jh fun W=>ownerR_calls (gt m.O k) W
          have HBL:Hid (∀ W,Below (wr.heap.size+1) (wr.alloc (.cells #[.int .i64 (gt m.O k).agent,.int .i64 (gt m.O k).life,.int .i64 (gt m.O k).count] 26)) W→(W.cell? ⟨wr.heap.size,0,none⟩=some (.int .i64 (gt m.O k).agent)∧W.cell? ⟨wr.heap.size,1,none⟩=some (.int .i64 (gt m.O k).life)∧W.cell? ⟨wr.heap.size,2,none⟩=some (.int .i64 (gt m.O k).count))∧W.cell? ⟨w.heap.size,5,none⟩=some (.slice (some ⟨b,off,none⟩) m.O.length cO)):=Jh fun W hW=>by
           have hb:=(Blk.new wr 26 #[.int .i64 (gt m.O k).agent,.int .i64 (gt m.O k).life,.int .i64 (gt m.O k).count]).below hW (Nat.lt_succ_self _)
           have hq:=HKW.out W (HB1.out.trans (hW.mono (by omega)))
           exact ⟨⟨hb.cell 0,hb.cell 1,hb.cell 2⟩,hq.2.2.2.2.2⟩
          have Hno1:=Jh (fun hh=>ris_no1 (r:=owB) (lt:=ltO) hlt hh)
          have Hno2:=Jh (fun hp hh=>ris_no2 (r:=owB) (lt:=ltO) hlt hp hh)
          have Hst:=Jh (fun h1 h2=>ris_step (r:=owB) (lt:=ltO) hall.out h1 h2)
          have HC2:=Jh (HCO.out (gt m.O (k-1)) (gt m.O k))
          have HP:=Jh fun W hW (hp:0<k)=>HG.out W hW (k-1) (by omega)
          have HHD:=Jh (fun (h:risB owB ltO m.O=false)=>show out=false by rw [HD3.out,h])
          clear hr HG hall HD3 HRO HCO HK HKW hb00
          generalize gt m.O k=x at *
          generalize gt m.O (k-1)=y at *
          have n1:IntKind.i64.wrap ((k:Int)-1)=(k:Int)-1:=IntWalk.i64_in _ (by omega)
          cases hx:owB x
          ·have HV:=Jh (HHD.out (Hno1.out hx))
           rw [hx] at HR2
           clear hx Hno1 Hno2 Hst HC2 HP HHD
           go_wp2_with fail
           refine wp_region_T 99 (fun w'=>(w'.cell? ⟨wr.heap.size,0,none⟩=some (.int .i64 x.agent)∧w'.cell? ⟨wr.heap.size,1,none⟩=some (.int .i64 x.life)∧w'.cell? ⟨wr.heap.size,2,none⟩=some (.int .i64 x.count))∧w'.cell? ⟨w.heap.size,5,none⟩=some (.slice (some ⟨b,off,none⟩) m.O.length cO)) (by kernel_rfl) (HBL.out _ (below_drewN_ (Below.refl _ _) 1)) (fun hHeld=>?_)
           apply tkT 0
           refine wpAnyT_one (i:=1) (by kernel_rfl) rfl (fun K hK=>?_);go_simp
           refine (HR2.out _).mono ?_
           rintro e wa ⟨rfl,hba⟩
           have hea0:Below (wr.heap.size+1) (wr.alloc (.cells #[.int .i64 x.agent,.int .i64 x.life,.int .i64 x.count] 26)) wa:=(below_drewN_ (Below.refl _ _) 1).trans (hba.mono (by simp [World.drew]))
           have hew:Below (w.heap.size+1) wm wa:=hbel.trans ((HB1.out.trans (hea0.mono (by omega))).mono hsz)
           have hHa:=HBL.out _ hea0
           refine hK.out _ _ (fun _=>hHa) ?_
           clear hK K hHeld hba
           apply tkT 2
           apply tkT 3
           apply tuT 4
           apply tuT 5
           apply tuT 6
           apply tuT 7
           apply tuT 8
           apply tuT 9
           apply tuT 10
           apply tuT 11
           apply tuT 12
           apply tuT 13
           apply tuT 14
           apply tuT 15
           apply tuT 16
           apply tuT 17
           apply tkT 18
           refine wpAnyT_done (by kernel_rfl) ?_ _
           go_wp2
           go_ret
           exact ⟨by rw [HV.out];rfl,(HB0.out _ hew).1⟩
          rw [hx] at HR2
          by_cases hp:0<k
          ·have dk:decide ((0:Int)<(k:Int))=true:=dct (by omega)
           have k0:(0:Int)≤(k:Int)-1:=by omega
           have k9:(k:Int)-1<(m.O.length:Int):=by omega
           have k1:(1:Int)≤(k:Int):=by omega
           have k2:¬ (k:Int)<1:=by omega
           have e1:((k:Int)-1).toNat=k-1:=by omega
           have HP2:Hid (∀ W,Below (wr.heap.size+1) (wr.alloc (.cells #[.int .i64 x.agent,.int .i64 x.life,.int .i64 x.count] 26)) W→((W.cell? ⟨wr.heap.size,0,none⟩=some (.int .i64 x.agent)∧W.cell? ⟨wr.heap.size,1,none⟩=some (.int .i64 x.life)∧W.cell? ⟨wr.heap.size,2,none⟩=some (.int .i64 x.count))∧W.cell? ⟨w.heap.size,5,none⟩=some (.slice (some ⟨b,off,none⟩) m.O.length cO))∧W.cell? ⟨b,off+(k-1)*3,none⟩=some (.int .i64 y.agent)∧W.cell? ⟨b,off+(k-1)*3+1,none⟩=some (.int .i64 y.life)∧W.cell? ⟨b,off+(k-1)*3+2,none⟩=some (.int .i64 y.count)):=Jh fun W hW=>⟨HBL.out W hW,HP.out W (HB1.out.trans (hW.mono (by omega))) hp⟩
           cases hlt2:ltO y x
           ·have HV:=Jh (HHD.out (Hno2.out hp hlt2))
            have HC3:=Jh HC2.out
            rw [hlt2] at HC3
            clear hx Hno1 Hno2 Hst HC2 HP HBL hlt2 HHD
            go_wp2_with fail
            refine wp_region_T 99 (fun w'=>((w'.cell? ⟨wr.heap.size,0,none⟩=some (.int .i64 x.agent)∧w'.cell? ⟨wr.heap.size,1,none⟩=some (.int .i64 x.life)∧w'.cell? ⟨wr.heap.size,2,none⟩=some (.int .i64 x.count))∧w'.cell? ⟨w.heap.size,5,none⟩=some (.slice (some ⟨b,off,none⟩) m.O.length cO))∧w'.cell? ⟨b,off+(k-1)*3,none⟩=some (.int .i64 y.agent)∧w'.cell? ⟨b,off+(k-1)*3+1,none⟩=some (.int .i64 y.life)∧w'.cell? ⟨b,off+(k-1)*3+2,none⟩=some (.int .i64 y.count)) (by kernel_rfl) (HP2.out _ (below_drewN_ (Below.refl _ _) 1)) (fun hHeld=>?_)
            apply tkT 0
            refine wpAnyT_one (i:=1) (by kernel_rfl) rfl (fun K hK=>?_);go_simp
            refine (HR2.out _).mono ?_
            rintro e wa ⟨rfl,hba⟩
            have hea0:Below (wr.heap.size+1) (wr.alloc (.cells #[.int .i64 x.agent,.int .i64 x.life,.int .i64 x.count] 26)) wa:=(below_drewN_ (Below.refl _ _) 1).trans (hba.mono (by simp [World.drew]))
            have hew:Below (w.heap.size+1) wm wa:=hbel.trans ((HB1.out.trans (hea0.mono (by omega))).mono hsz)
            have hHa:=HP2.out _ hea0
            refine hK.out _ _ (fun _=>hHa) ?_
            clear hK K hHeld hba
            have HC4:=HC3.out
            apply tkT 2
            apply tkT 3
            apply tkT 4
            apply tkT 5
            apply tkT 6
            apply tkT 7
            apply tkT 8
            apply tkT 9
            apply tkT 10
            apply tkT (v:=.pointer (some ⟨b,off+(k-1)*3,none⟩)) 11
            apply tkT 12
            apply tkT 13
            apply tkT 14
            apply tkT 15
            apply tkT 16
            apply tkT 17
            apply tkT 18
            refine wpAnyT_done (by kernel_rfl) ?_ _
            go_wp2
            go_ret
            exact ⟨by rw [HV.out];rfl,(HB0.out _ hew).1⟩
           ·have HS:=Jh (Hst.out hx (fun _=>hlt2))
            have HC3:=Jh HC2.out
            rw [hlt2] at HC3
            clear hx Hno1 Hno2 Hst HC2 HP HBL hlt2 HHD
            go_wp2_with fail
            refine wp_region_T 99 (fun w'=>((w'.cell? ⟨wr.heap.size,0,none⟩=some (.int .i64 x.agent)∧w'.cell? ⟨wr.heap.size,1,none⟩=some (.int .i64 x.life)∧w'.cell? ⟨wr.heap.size,2,none⟩=some (.int .i64 x.count))∧w'.cell? ⟨w.heap.size,5,none⟩=some (.slice (some ⟨b,off,none⟩) m.O.length cO))∧w'.cell? ⟨b,off+(k-1)*3,none⟩=some (.int .i64 y.agent)∧w'.cell? ⟨b,off+(k-1)*3+1,none⟩=some (.int .i64 y.life)∧w'.cell? ⟨b,off+(k-1)*3+2,none⟩=some (.int .i64 y.count)) (by kernel_rfl) (HP2.out _ (below_drewN_ (Below.refl _ _) 1)) (fun hHeld=>?_)
            apply tkT 0
            refine wpAnyT_one (i:=1) (by kernel_rfl) rfl (fun K hK=>?_);go_simp
            refine (HR2.out _).mono ?_
            rintro e wa ⟨rfl,hba⟩
            have hea0:Below (wr.heap.size+1) (wr.alloc (.cells #[.int .i64 x.agent,.int .i64 x.life,.int .i64 x.count] 26)) wa:=(below_drewN_ (Below.refl _ _) 1).trans (hba.mono (by simp [World.drew]))
            have hew:Below (w.heap.size+1) wm wa:=hbel.trans ((HB1.out.trans (hea0.mono (by omega))).mono hsz)
            have hHa:=HP2.out _ hea0
            refine hK.out _ _ (fun _=>hHa) ?_
            clear hK K hHeld hba
            have HC4:=HC3.out
            apply tkT 2
            apply tkT 3
            apply tkT 4
            apply tkT 5
            apply tkT 6
            apply tkT 7
            apply tkT 8
            apply tkT 9
            apply tkT 10
            apply tkT (v:=.pointer (some ⟨b,off+(k-1)*3,none⟩)) 11
            apply tkT 12
            apply tkT 13
            apply tkT 14
            apply tkT 15
            apply tkT 16
            apply tkT 17
            apply tkT 18
            refine wpAnyT_done (by kernel_rfl) ?_ _
            go_wp2
            go_roundw
            case rel=>exact ⟨k+1,by omega,by go_num,HS,hew⟩
            case measure=>simp [intOf];omega
          ·have dk:decide ((0:Int)<(k:Int))=false:=dcf (by omega)
           have HS:=Jh (Hst.out hx (fun h=>absurd h hp))
           clear hx Hno1 Hno2 Hst HC2 HP HHD
           go_wp2_with fail
           refine wp_region_T 99 (fun w'=>(w'.cell? ⟨wr.heap.size,0,none⟩=some (.int .i64 x.agent)∧w'.cell? ⟨wr.heap.size,1,none⟩=some (.int .i64 x.life)∧w'.cell? ⟨wr.heap.size,2,none⟩=some (.int .i64 x.count))∧w'.cell? ⟨w.heap.size,5,none⟩=some (.slice (some ⟨b,off,none⟩) m.O.length cO)) (by kernel_rfl) (HBL.out _ (below_drewN_ (Below.refl _ _) 1)) (fun hHeld=>?_)
           apply tkT 0
           refine wpAnyT_one (i:=1) (by kernel_rfl) rfl (fun K hK=>?_);go_simp
           refine (HR2.out _).mono ?_
           rintro e wa ⟨rfl,hba⟩
           have hea0:Below (wr.heap.size+1) (wr.alloc (.cells #[.int .i64 x.agent,.int .i64 x.life,.int .i64 x.count] 26)) wa:=(below_drewN_ (Below.refl _ _) 1).trans (hba.mono (by simp [World.drew]))
           have hew:Below (w.heap.size+1) wm wa:=hbel.trans ((HB1.out.trans (hea0.mono (by omega))).mono hsz)
           have hHa:=HBL.out _ hea0
           refine hK.out _ _ (fun _=>hHa) ?_
           clear hK K hHeld hba
           apply tkT 2
           apply tkT 3
           apply tkT 4
           apply tkT 5
           apply tkT 6
           apply tuT 7
           apply tuT 8
           apply tuT 9
           apply tuT 10
           apply tuT 11
           apply tuT 12
           apply tuT 13
           apply tuT 14
           apply tuT 15
           apply tuT 16
           apply tkT 17
           apply tkT 18
           refine wpAnyT_done (by kernel_rfl) ?_ _
           go_wp2
           go_roundw
           case rel=>exact ⟨k+1,by omega,by go_num,HS,hew⟩
           case measure=>simp [intOf];omega
         ·obtain rfl:k=m.O.length:=by omega
          have HV:Hid (out=true):=Jh (by rw [HD3.out,ris_yes hall.out])
          go_wp2
          go_ret
          exact ⟨by rw [HV.out];rfl,(HB0.out _ hbel).1⟩
     ·have te4:rm=false:=by simpa using e4
      have HV:Hid (out=false):=Jh (by rw [HD.out];first|(rw [te4];simp)|(rw [dcf e4];simp))
      clear HD
      go_enter Tryz.func18,Tryz.ntmps18
      go_wp2_with first|(go_at_call 35;refine (HN.out _ _ _).mono ?_;rintro e w9 ⟨rfl,rfl⟩)|(go_at_call 36;refine (HM.out _ (HB0.out _ HB00.out).1).mono ?_;rintro e w1 ⟨rfl,hb1'⟩;have hb1:Below w.heap.size w w1:=(HB0.out _ HB00.out).1.trans (hb1'.mono (by have:=(HB0.out _ HB00.out).2;omega)))
      go_ret
      exact ⟨by rw [HV.out];rfl,by first|exact hb1|exact (HB0.out _ HB00.out).1⟩
    ·have te3:decide ((256:Int)<(m.E.length:Int))=true:=dct (by omega)
     have HV:Hid (out=false):=Jh (by rw [HD.out];first|(rw [te3];simp)|(rw [dcf e3];simp))
     clear HD
     go_enter Tryz.func18,Tryz.ntmps18
     go_wp2_with first|(go_at_call 35;refine (HN.out _ _ _).mono ?_;rintro e w9 ⟨rfl,rfl⟩)|(go_at_call 36;refine (HM.out _ (HB0.out _ HB00.out).1).mono ?_;rintro e w1 ⟨rfl,hb1'⟩;have hb1:Below w.heap.size w w1:=(HB0.out _ HB00.out).1.trans (hb1'.mono (by have:=(HB0.out _ HB00.out).2;omega)))
     go_ret
     exact ⟨by rw [HV.out];rfl,by first|exact hb1|exact (HB0.out _ HB00.out).1⟩
   ·have te2:numB m.fence 0=false:=by simpa using e2
    have HV:Hid (out=false):=Jh (by rw [HD.out];first|(rw [te2];simp)|(rw [dcf e2];simp))
    clear HD
    go_enter Tryz.func18,Tryz.ntmps18
    go_wp2_with first|(go_at_call 35;refine (HN.out _ _ _).mono ?_;rintro e w9 ⟨rfl,rfl⟩)|(go_at_call 36;refine (HM.out _ (HB0.out _ HB00.out).1).mono ?_;rintro e w1 ⟨rfl,hb1'⟩;have hb1:Below w.heap.size w w1:=(HB0.out _ HB00.out).1.trans (hb1'.mono (by have:=(HB0.out _ HB00.out).2;omega)))
    go_ret
    exact ⟨by rw [HV.out];rfl,by first|exact hb1|exact (HB0.out _ HB00.out).1⟩
  ·have te1:numB m.cut 0=false:=by simpa using e1
   have HV:Hid (out=false):=Jh (by rw [HD.out];first|(rw [te1];simp)|(rw [dcf e1];simp))
   clear HD
   go_enter Tryz.func18,Tryz.ntmps18
   go_wp2_with first|(go_at_call 35;refine (HN.out _ _ _).mono ?_;rintro e w9 ⟨rfl,rfl⟩)|(go_at_call 36;refine (HM.out _ (HB0.out _ HB00.out).1).mono ?_;rintro e w1 ⟨rfl,hb1'⟩;have hb1:Below w.heap.size w w1:=(HB0.out _ HB00.out).1.trans (hb1'.mono (by have:=(HB0.out _ HB00.out).2;omega)))
   go_ret
   exact ⟨by rw [HV.out];rfl,by first|exact hb1|exact (HB0.out _ HB00.out).1⟩
 ·have te0:numB m.gen 0=false:=by simpa using e0
  have HV:Hid (out=false):=Jh (by rw [HD.out];first|(rw [te0];simp)|(rw [dcf e0];simp))
  clear HD
  go_enter Tryz.func18,Tryz.ntmps18
  go_wp2_with first|(go_at_call 35;refine (HN.out _ _ _).mono ?_;rintro e w9 ⟨rfl,rfl⟩)|(go_at_call 36;refine (HM.out _ (HB0.out _ HB00.out).1).mono ?_;rintro e w1 ⟨rfl,hb1'⟩;have hb1:Below w.heap.size w w1:=(HB0.out _ HB00.out).1.trans (hb1'.mono (by have:=(HB0.out _ HB00.out).2;omega)))
  go_ret
  exact ⟨by rw [HV.out];rfl,by first|exact hb1|exact (HB0.out _ HB00.out).1⟩
theorem rightR_calls (w:World) {B:Nat} {m:Md} {p:Pl} (h:Man w B m p) (hB:B≤w.heap.size) (hs:Short m.E):Calls Tryz.prog 18 #[mdV m p] w fun e w'=>e=.returned (.bool (rightB m))∧Below w.heap.size w w':=rightR_any w h hB
end Go.Proofs.YtibnehaibgbliaaGreat.Mf
