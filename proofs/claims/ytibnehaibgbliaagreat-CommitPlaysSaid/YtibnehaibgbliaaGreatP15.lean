/- Laws for the row's walk. -/
import Derived.Test.YtibnehaibgbliaaGreatP14
set_option linter.unusedVariables false
set_option linter.unusedSimpArgs false
open Go.Lib renaming hid → Jh
namespace Go.Proofs.YtibnehaibgbliaaGreat.Mf
open Go.RowKit Go.Proofs.YtibnehaibgbliaaGreat
theorem qek (a b:ByteArray):(a.toList=b.toList)↔a=b:=by
 have:=qch a b
 rw [Bool.eq_iff_iff,beq_iff_eq,decide_eq_true_iff] at this
 exact this
set_option maxRecDepth 100000 in
theorem neq_en (W:World) (x y:En):(binOp .neq 85 (.agg #[.string x.key,.int .i64 x.window,.string x.part,.int .i64 x.first,.int .i64 x.last,.int .i64 x.rows,.int .i64 x.size,.int .u32 x.sum,.int .i64 x.born]) (.agg #[.string y.key,.int .i64 y.window,.string y.part,.int .i64 y.first,.int .i64 y.last,.int .i64 y.rows,.int .i64 y.size,.int .u32 y.sum,.int .i64 y.born])).run Tryz.prog W=.ok (.bool (!(decide (x=y)))) W:=by
 have u3:=Tryz.underlying9
 have a3:=Tryz.isAgg9
 have z3:=Tryz.sizeOf9
 have u4:=Tryz.underlying3
 have a4:=Tryz.isAgg3
 have z4:=Tryz.sizeOf3
 have u5:=Tryz.underlying83
 have a5:=Tryz.isAgg83
 have z5:=Tryz.sizeOf83
 have hS:Tryz.prog.underlying 85=some (.struct (Tryz.prog.fieldsOf 85)):=by kernel_rfl
 have hp:Tryz.prog.stoodInHeld 85=false:=by kernel_rfl
 rw [run_neq_struct,show (10000:Nat)=9999+1 from rfl,run_equalIn_agg W 9999 85 _ _ hS hp]
 simp only [Program.fieldsOf,Tryz.underlying85]
 go_simp
 by_cases e:x=y
 ·subst e;simp
 ·rw [dcf e]
  repeat' split
  all_goals first
   | rfl
   | (exfalso;apply e;cases x;cases y;simp_all [qek])
theorem neq_mk (W:World) (x y:Mk):(binOp .neq 90 (.agg #[.int .i64 x.maker,.int .i64 x.seq]) (.agg #[.int .i64 y.maker,.int .i64 y.seq])).run Tryz.prog W=.ok (.bool (!(decide (x=y)))) W:=by
 have u4:=Tryz.underlying3
 have a4:=Tryz.isAgg3
 have z4:=Tryz.sizeOf3
 have hS:Tryz.prog.underlying 90=some (.struct (Tryz.prog.fieldsOf 90)):=by kernel_rfl
 have hp:Tryz.prog.stoodInHeld 90=false:=by kernel_rfl
 rw [run_neq_struct,show (10000:Nat)=9999+1 from rfl,run_equalIn_agg W 9999 90 _ _ hS hp]
 simp only [Program.fieldsOf,Tryz.underlying90]
 go_simp
 by_cases e:x=y
 ·subst e;simp
 ·rw [dcf e]
  repeat' split
  all_goals first
   | rfl
   | (exfalso;apply e;cases x;cases y;simp_all [qek])
theorem neq_ow (W:World) (x y:Ow):(binOp .neq 26 (.agg #[.int .i64 x.agent,.int .i64 x.life,.int .i64 x.count]) (.agg #[.int .i64 y.agent,.int .i64 y.life,.int .i64 y.count])).run Tryz.prog W=.ok (.bool (!(decide (x=y)))) W:=by
 have u4:=Tryz.underlying3
 have a4:=Tryz.isAgg3
 have z4:=Tryz.sizeOf3
 have hS:Tryz.prog.underlying 26=some (.struct (Tryz.prog.fieldsOf 26)):=by kernel_rfl
 have hp:Tryz.prog.stoodInHeld 26=false:=by kernel_rfl
 rw [run_neq_struct,show (10000:Nat)=9999+1 from rfl,run_equalIn_agg W 9999 26 _ _ hS hp]
 simp only [Program.fieldsOf,Tryz.underlying26]
 go_simp
 by_cases e:x=y
 ·subst e;simp
 ·rw [dcf e]
  repeat' split
  all_goals first
   | rfl
   | (exfalso;apply e;cases x;cases y;simp_all [qek])
def sameM (a b:Md):Bool:=decide (a=b)
theorem eq_all {α:Type} [Inhabited α] {l m:List α} (hl:l.length=m.length) (h:∀ i,i<l.length→gt l i=gt m i):l=m:=by
 refine List.ext_getElem hl fun i h1 h2=>?_
 rw [gt_eq h1,gt_eq h2]
 exact h i h1
theorem same_self (m:Md):sameM m m=true:=dct rfl
def headB (a b:Md):Bool:=decide (a.gen=b.gen)&&decide (a.cut=b.cut)&&decide (a.fence=b.fence)&&decide (a.E.length=b.E.length)&&decide (a.M.length=b.M.length)&&decide (a.O.length=b.O.length)
theorem qel {a b:Md} (h:headB a b=false):sameM a b=false:=dcf fun e=>by subst e;unfold headB at h;simp at h
theorem same_iff {a b:Md} (h:headB a b=true):sameM a b=(decide (a.E=b.E)&&decide (a.M=b.M)&&decide (a.O=b.O)):=by
 unfold headB at h
 simp only [Bool.and_eq_true,decide_eq_true_eq] at h
 obtain ⟨⟨⟨⟨⟨h1,h2⟩,h3⟩,h4⟩,h5⟩,h6⟩:=h
 unfold sameM
 rw [Bool.eq_iff_iff]
 simp only [Bool.and_eq_true,decide_eq_true_eq]
 constructor
 ·rintro rfl;exact ⟨⟨rfl,rfl⟩,rfl⟩
 ·rintro ⟨⟨e1,e2⟩,e3⟩
  cases a;cases b
  simp_all
set_option maxRecDepth 100000 in
set_option maxHeartbeats 3200000 in
theorem sameM_calls (w:World) {B1 B2:Nat} {a b:Md} {p q:Pl} (ha:Man w B1 a p) (hb:Man w B2 b q) (hB1:B1≤w.heap.size) (hB2:B2≤w.heap.size):Calls Tryz.prog 14 #[mdV a p,mdV b q] w fun e w'=>e=.returned (.bool (sameM a b))∧Below w.heap.size w w':=by
 have HT:Hid (∀ W,Below (w.heap.size+2) ((w.alloc (.cells #[.int .i64 a.gen,.int .i64 a.cut,.int .i64 a.fence,.slice p.AE a.E.length p.cE,.slice p.AM a.M.length p.cM,.slice p.AO a.O.length p.cO] 53)).alloc (.cells #[.int .i64 b.gen,.int .i64 b.cut,.int .i64 b.fence,.slice q.AE b.E.length q.cE,.slice q.AM b.M.length q.cM,.slice q.AO b.O.length q.cO] 53)) W→(W.cell? ⟨w.heap.size,0,none⟩=some (.int .i64 a.gen)∧W.cell? ⟨w.heap.size,1,none⟩=some (.int .i64 a.cut)∧W.cell? ⟨w.heap.size,2,none⟩=some (.int .i64 a.fence)∧W.cell? ⟨w.heap.size,3,none⟩=some (.slice p.AE a.E.length p.cE)∧W.cell? ⟨w.heap.size,4,none⟩=some (.slice p.AM a.M.length p.cM)∧W.cell? ⟨w.heap.size,5,none⟩=some (.slice p.AO a.O.length p.cO))∧W.cell? ⟨(w.heap.size+1),0,none⟩=some (.int .i64 b.gen)∧W.cell? ⟨(w.heap.size+1),1,none⟩=some (.int .i64 b.cut)∧W.cell? ⟨(w.heap.size+1),2,none⟩=some (.int .i64 b.fence)∧W.cell? ⟨(w.heap.size+1),3,none⟩=some (.slice q.AE b.E.length q.cE)∧W.cell? ⟨(w.heap.size+1),4,none⟩=some (.slice q.AM b.M.length q.cM)∧W.cell? ⟨(w.heap.size+1),5,none⟩=some (.slice q.AO b.O.length q.cO)):=Jh fun W hW=>by
  have h1:=(((Blk.new w 53 #[.int .i64 a.gen,.int .i64 a.cut,.int .i64 a.fence,.slice p.AE a.E.length p.cE,.slice p.AM a.M.length p.cM,.slice p.AO a.O.length p.cO]).alloc (.cells #[.int .i64 b.gen,.int .i64 b.cut,.int .i64 b.fence,.slice q.AE b.E.length q.cE,.slice q.AM b.M.length q.cM,.slice q.AO b.O.length q.cO] 53)).below hW (by omega))
  have h2:=Blk.new (w.alloc (.cells #[.int .i64 a.gen,.int .i64 a.cut,.int .i64 a.fence,.slice p.AE a.E.length p.cE,.slice p.AM a.M.length p.cM,.slice p.AO a.O.length p.cO] 53)) 53 #[.int .i64 b.gen,.int .i64 b.cut,.int .i64 b.fence,.slice q.AE b.E.length q.cE,.slice q.AM b.M.length q.cM,.slice q.AO b.O.length q.cO]
  rw [World.size_alloc] at h2
  have h3:=Blk.below h2 hW (by omega)
  exact ⟨⟨h1.cell 0,h1.cell 1,h1.cell 2,h1.cell 3,h1.cell 4,h1.cell 5⟩,⟨h3.cell 0,h3.cell 1,h3.cell 2,h3.cell 3,h3.cell 4,h3.cell 5⟩⟩
 have HB0:Hid (∀ W,Below (w.heap.size+2) ((w.alloc (.cells #[.int .i64 a.gen,.int .i64 a.cut,.int .i64 a.fence,.slice p.AE a.E.length p.cE,.slice p.AM a.M.length p.cM,.slice p.AO a.O.length p.cO] 53)).alloc (.cells #[.int .i64 b.gen,.int .i64 b.cut,.int .i64 b.fence,.slice q.AE b.E.length q.cE,.slice q.AM b.M.length q.cM,.slice q.AO b.O.length q.cO] 53)) W→Below w.heap.size w W∧w.heap.size+2≤W.heap.size):=Jh fun W hW=>⟨(((Below.refl w.heap.size w).alloc (Nat.le_refl _) _).alloc (by simp) _).trans (hW.mono (by omega)),by have:=hW.size;simp at this;omega⟩
 have HE1:=Jh fun W (hW:Below w.heap.size w W)=>ha.re.below (hW.mono hB1)
 have HE2:=Jh fun W (hW:Below w.heap.size w W)=>hb.re.below (hW.mono hB2)
 have HM1:=Jh fun W (hW:Below w.heap.size w W)=>ha.rm.below (hW.mono hB1)
 have HM2:=Jh fun W (hW:Below w.heap.size w W)=>hb.rm.below (hW.mono hB2)
 have HO1:=Jh fun W (hW:Below w.heap.size w W)=>ha.ro.below (hW.mono hB1)
 have HO2:=Jh fun W (hW:Below w.heap.size w W)=>hb.ro.below (hW.mono hB2)
 have hle:=ha.le
 have hlm:=ha.lm
 have hlo:=ha.lo
 have hle2:=hb.le
 have hlm2:=hb.lm
 have hlo2:=hb.lo
 clear ha hb
 obtain ⟨AE,cE,AM,cM,AO,cO⟩:=p
 obtain ⟨DE,dE,DM,dM,DO,dO⟩:=q
 dsimp only at *
 have HW:=Jh (Below.refl (w.heap.size+2) ((w.alloc (.cells #[.int .i64 a.gen,.int .i64 a.cut,.int .i64 a.fence,.slice AE a.E.length cE,.slice AM a.M.length cM,.slice AO a.O.length cO] 53)).alloc (.cells #[.int .i64 b.gen,.int .i64 b.cut,.int .i64 b.fence,.slice DE b.E.length dE,.slice DM b.M.length dM,.slice DO b.O.length dO] 53)))
 go_enter Tryz.func14,Tryz.ntmps14
 have HHd:Hid (headB a b=(decide (a.gen=b.gen)&&decide (a.cut=b.cut)&&decide (a.fence=b.fence)&&decide (a.E.length=b.E.length)&&decide (a.M.length=b.M.length)&&decide (a.O.length=b.O.length))):=Jh rfl
 by_cases e0:a.gen=b.gen
 ·have te0:(a.gen != b.gen)=false:=nef e0
  by_cases e1:a.cut=b.cut
  ·have te1:(a.cut != b.cut)=false:=nef e1
   by_cases e2:a.fence=b.fence
   ·have te2:(a.fence != b.fence)=false:=nef e2
    by_cases e3:a.E.length=b.E.length
    ·have te3:((a.E.length:Int) != (b.E.length:Int))=false:=nef (by omega)
     by_cases e4:a.M.length=b.M.length
     ·have te4:((a.M.length:Int) != (b.M.length:Int))=false:=nef (by omega)
      by_cases e5:a.O.length=b.O.length
      ·have te5:((a.O.length:Int) != (b.O.length:Int))=false:=nef (by omega)
       have HS:Hid (sameM a b=(decide (a.E=b.E)&&decide (a.M=b.M)&&decide (a.O=b.O))):=Jh (same_iff (by rw [HHd.out,dct e0,dct e1,dct e2,dct e3,dct e4,dct e5];rfl))
       have HL3:=Jh e3
       have HL4:=Jh e4
       have HL5:=Jh e5
       clear e0 e1 e2 e3 e4 e5 HHd
       generalize sameM a b=out at *
       go_wp2
       generalize (w.alloc (.cells #[.int .i64 a.gen,.int .i64 a.cut,.int .i64 a.fence,.slice AE a.E.length cE,.slice AM a.M.length cM,.slice AO a.O.length cO] 53)).alloc (.cells #[.int .i64 b.gen,.int .i64 b.cut,.int .i64 b.fence,.slice DE b.E.length dE,.slice DM b.M.length dM,.slice DO b.O.length dO] 53)=wm at *
       go_loopw [57] (fun i wr=>∃ j:Nat,j≤a.E.length∧i=.int .i64 (j:Int)∧Hid (∀ i,i<j→gt a.E i=gt b.E i)∧Hid (Below (w.heap.size+2) wm wr)) (fun i _=>a.E.length-(intOf i).toNat)
       case atStart=>exact ⟨0,Nat.zero_le _,rfl,Jh (fun i hi=>absurd hi (Nat.not_lt_zero i)),HW⟩
       case round =>
        clear HW
        obtain ⟨j,hj,rfl,HF,HW⟩:=hrel
        obtain ⟨hb00,hsz⟩:=HB0.out wr HW.out
        obtain ⟨⟨s0,s1,s2,s3,s4,s5⟩,⟨t0,t1,t2,t3,t4,t5⟩⟩:=HT.out wr HW.out
        by_cases hlt:j<a.E.length
        ·have hr:=HE1.out wr hb00
         have hr2:=HE2.out wr hb00
         have hlt2:j<b.E.length:=by rw [← HL3.out];exact hlt
         obtain ⟨bb,off,rfl,hbB⟩:=qai hr (by omega)
         obtain ⟨bc,off2,rfl,hbB2⟩:=qai hr2 (by omega)
         obtain ⟨p0,p1,p2,p3,p4,p5,p6,p7,p8⟩:wr.cell? ⟨bb,off+j*9,none⟩=some (.string (gt a.E j).key)∧wr.cell? ⟨bb,off+j*9+1,none⟩=some (.int .i64 (gt a.E j).window)∧wr.cell? ⟨bb,off+j*9+2,none⟩=some (.string (gt a.E j).part)∧wr.cell? ⟨bb,off+j*9+3,none⟩=some (.int .i64 (gt a.E j).first)∧wr.cell? ⟨bb,off+j*9+4,none⟩=some (.int .i64 (gt a.E j).last)∧wr.cell? ⟨bb,off+j*9+5,none⟩=some (.int .i64 (gt a.E j).rows)∧wr.cell? ⟨bb,off+j*9+6,none⟩=some (.int .i64 (gt a.E j).size)∧wr.cell? ⟨bb,off+j*9+7,none⟩=some (.int .u32 (gt a.E j).sum)∧wr.cell? ⟨bb,off+j*9+8,none⟩=some (.int .i64 (gt a.E j).born):=⟨qab qac hr hlt (j:=0) rfl,qab qac hr hlt (j:=1) rfl,qab qac hr hlt (j:=2) rfl,qab qac hr hlt (j:=3) rfl,qab qac hr hlt (j:=4) rfl,qab qac hr hlt (j:=5) rfl,qab qac hr hlt (j:=6) rfl,qab qac hr hlt (j:=7) rfl,qab qac hr hlt (j:=8) rfl⟩
         obtain ⟨v0,v1,v2,v3,v4,v5,v6,v7,v8⟩:wr.cell? ⟨bc,off2+j*9,none⟩=some (.string (gt b.E j).key)∧wr.cell? ⟨bc,off2+j*9+1,none⟩=some (.int .i64 (gt b.E j).window)∧wr.cell? ⟨bc,off2+j*9+2,none⟩=some (.string (gt b.E j).part)∧wr.cell? ⟨bc,off2+j*9+3,none⟩=some (.int .i64 (gt b.E j).first)∧wr.cell? ⟨bc,off2+j*9+4,none⟩=some (.int .i64 (gt b.E j).last)∧wr.cell? ⟨bc,off2+j*9+5,none⟩=some (.int .i64 (gt b.E j).rows)∧wr.cell? ⟨bc,off2+j*9+6,none⟩=some (.int .i64 (gt b.E j).size)∧wr.cell? ⟨bc,off2+j*9+7,none⟩=some (.int .u32 (gt b.E j).sum)∧wr.cell? ⟨bc,off2+j*9+8,none⟩=some (.int .i64 (gt b.E j).born):=⟨qab qac hr2 hlt2 (j:=0) rfl,qab qac hr2 hlt2 (j:=1) rfl,qab qac hr2 hlt2 (j:=2) rfl,qab qac hr2 hlt2 (j:=3) rfl,qab qac hr2 hlt2 (j:=4) rfl,qab qac hr2 hlt2 (j:=5) rfl,qab qac hr2 hlt2 (j:=6) rfl,qab qac hr2 hlt2 (j:=7) rfl,qab qac hr2 hlt2 (j:=8) rfl⟩
         have i0:(0:Int)≤(j:Int):=by omega
         have i9:(j:Int)<(a.E.length:Int):=by omega
         have i8:(j:Int)<(b.E.length:Int):=by omega
         have hq:=fun W=>neq_en W (gt a.E j) (gt b.E j)
         have HNo:Hid (gt a.E j≠gt b.E j→out=false):=Jh fun hh=>by rw [HS.out,dcf (show ¬ a.E=b.E from fun e=>hh (by rw [e]))];(try simp)
         have HY:Hid (gt a.E j=gt b.E j→∀ i,i<j+1→gt a.E i=gt b.E i):=Jh fun hh i hi=>by
          rcases Nat.lt_or_ge i j with h1|h1
          ·exact HF.out i h1
          ·obtain rfl:i=j:=by omega
           exact hh
         clear hr hr2 HF hlt2
         generalize gt a.E j=x at *
         generalize gt b.E j=y at *
         by_cases he:x=y
         ·have hq':∀ W,(binOp .neq 85 (.agg #[.string x.key,.int .i64 x.window,.string x.part,.int .i64 x.first,.int .i64 x.last,.int .i64 x.rows,.int .i64 x.size,.int .u32 x.sum,.int .i64 x.born]) (.agg #[.string y.key,.int .i64 y.window,.string y.part,.int .i64 y.first,.int .i64 y.last,.int .i64 y.rows,.int .i64 y.size,.int .u32 y.sum,.int .i64 y.born])).run Tryz.prog W=.ok (.bool false) W:=fun W=>by rw [hq,dct he];rfl
          have HY2:=Jh (HY.out he)
          clear hq he
          go_wp2_with fail
          go_quiet (fail)
          go_wp2
          go_roundw
          case rel=>exact ⟨j+1,by omega,by go_num,HY2,Jh (qaa HW.out _)⟩
          case measure=>simp [intOf];omega
         ·have hq':∀ W,(binOp .neq 85 (.agg #[.string x.key,.int .i64 x.window,.string x.part,.int .i64 x.first,.int .i64 x.last,.int .i64 x.rows,.int .i64 x.size,.int .u32 x.sum,.int .i64 x.born]) (.agg #[.string y.key,.int .i64 y.window,.string y.part,.int .i64 y.first,.int .i64 y.last,.int .i64 y.rows,.int .i64 y.size,.int .u32 y.sum,.int .i64 y.born])).run Tryz.prog W=.ok (.bool true) W:=fun W=>by rw [hq,dcf he];rfl
          have HV:=Jh (HNo.out he)
          clear hq he
          go_wp2_with fail
          go_quiet (fail)
          go_wp2
          go_ret
          exact ⟨by rw [HV.out];rfl,qaa (HB0.out _ HW.out).1 _⟩
        obtain rfl:j=a.E.length:=by omega
        have HS1:Hid (out=(decide (a.M=b.M)&&decide (a.O=b.O))):=Jh (by rw [HS.out,dct (show a.E=b.E from eq_all HL3.out HF.out)];rfl)
        clear HS HF HE1 HE2
        go_wp2
        go_loopw [75] (fun i wr=>∃ j:Nat,j≤a.M.length∧i=.int .i64 (j:Int)∧Hid (∀ i,i<j→gt a.M i=gt b.M i)∧Hid (Below (w.heap.size+2) wm wr)) (fun i _=>a.M.length-(intOf i).toNat)
        case atStart=>exact ⟨0,Nat.zero_le _,rfl,Jh (fun i hi=>absurd hi (Nat.not_lt_zero i)),HW⟩
        case round =>
         clear HW s0 s1 s2 s3 s4 s5 t0 t1 t2 t3 t4 t5 hb00 hsz
         obtain ⟨j,hj,rfl,HF,HW⟩:=hrel
         obtain ⟨hb00,hsz⟩:=HB0.out wr HW.out
         obtain ⟨⟨s0,s1,s2,s3,s4,s5⟩,⟨t0,t1,t2,t3,t4,t5⟩⟩:=HT.out wr HW.out
         by_cases hlt:j<a.M.length
         ·have hr:=HM1.out wr hb00
          have hr2:=HM2.out wr hb00
          have hlt2:j<b.M.length:=by rw [← HL4.out];exact hlt
          obtain ⟨bb,off,rfl,hbB⟩:=qai hr (by omega)
          obtain ⟨bc,off2,rfl,hbB2⟩:=qai hr2 (by omega)
          obtain ⟨p0,p1⟩:wr.cell? ⟨bb,off+j*2,none⟩=some (.int .i64 (gt a.M j).maker)∧wr.cell? ⟨bb,off+j*2+1,none⟩=some (.int .i64 (gt a.M j).seq):=⟨qab qat hr hlt (j:=0) rfl,qab qat hr hlt (j:=1) rfl⟩
          obtain ⟨v0,v1⟩:wr.cell? ⟨bc,off2+j*2,none⟩=some (.int .i64 (gt b.M j).maker)∧wr.cell? ⟨bc,off2+j*2+1,none⟩=some (.int .i64 (gt b.M j).seq):=⟨qab qat hr2 hlt2 (j:=0) rfl,qab qat hr2 hlt2 (j:=1) rfl⟩
          have i0:(0:Int)≤(j:Int):=by omega
          have i9:(j:Int)<(a.M.length:Int):=by omega
          have i8:(j:Int)<(b.M.length:Int):=by omega
          have hq:=fun W=>neq_mk W (gt a.M j) (gt b.M j)
          have HNo:Hid (gt a.M j≠gt b.M j→out=false):=Jh fun hh=>by rw [HS1.out,dcf (show ¬ a.M=b.M from fun e=>hh (by rw [e]))];(try simp)
          have HY:Hid (gt a.M j=gt b.M j→∀ i,i<j+1→gt a.M i=gt b.M i):=Jh fun hh i hi=>by
           rcases Nat.lt_or_ge i j with h1|h1
           ·exact HF.out i h1
           ·obtain rfl:i=j:=by omega
            exact hh
          clear hr hr2 HF hlt2
          generalize gt a.M j=x at *
          generalize gt b.M j=y at *
          by_cases he:x=y
          ·have hq':∀ W,(binOp .neq 90 (.agg #[.int .i64 x.maker,.int .i64 x.seq]) (.agg #[.int .i64 y.maker,.int .i64 y.seq])).run Tryz.prog W=.ok (.bool false) W:=fun W=>by rw [hq,dct he];rfl
           have HY2:=Jh (HY.out he)
           clear hq he
           go_wp2_with fail
           go_quiet (fail)
           go_wp2
           go_roundw
           case rel=>exact ⟨j+1,by omega,by go_num,HY2,Jh (qaa HW.out _)⟩
           case measure=>simp [intOf];omega
          ·have hq':∀ W,(binOp .neq 90 (.agg #[.int .i64 x.maker,.int .i64 x.seq]) (.agg #[.int .i64 y.maker,.int .i64 y.seq])).run Tryz.prog W=.ok (.bool true) W:=fun W=>by rw [hq,dcf he];rfl
           have HV:=Jh (HNo.out he)
           clear hq he
           go_wp2_with fail
           go_quiet (fail)
           go_wp2
           go_ret
           exact ⟨by rw [HV.out];rfl,qaa (HB0.out _ HW.out).1 _⟩
         obtain rfl:j=a.M.length:=by omega
         have HS2:Hid (out=decide (a.O=b.O)):=Jh (by rw [HS1.out,dct (show a.M=b.M from eq_all HL4.out HF.out)];rfl)
         clear HS1 HF HM1 HM2
         go_wp2
         go_loopw [93] (fun i wr=>∃ j:Nat,j≤a.O.length∧i=.int .i64 (j:Int)∧Hid (∀ i,i<j→gt a.O i=gt b.O i)∧Hid (Below (w.heap.size+2) wm wr)) (fun i _=>a.O.length-(intOf i).toNat)
         case atStart=>exact ⟨0,Nat.zero_le _,rfl,Jh (fun i hi=>absurd hi (Nat.not_lt_zero i)),HW⟩
         case round =>
          clear HW s0 s1 s2 s3 s4 s5 t0 t1 t2 t3 t4 t5 hb00 hsz
          obtain ⟨j,hj,rfl,HF,HW⟩:=hrel
          obtain ⟨hb00,hsz⟩:=HB0.out wr HW.out
          obtain ⟨⟨s0,s1,s2,s3,s4,s5⟩,⟨t0,t1,t2,t3,t4,t5⟩⟩:=HT.out wr HW.out
          by_cases hlt:j<a.O.length
          ·have hr:=HO1.out wr hb00
           have hr2:=HO2.out wr hb00
           have hlt2:j<b.O.length:=by rw [← HL5.out];exact hlt
           obtain ⟨bb,off,rfl,hbB⟩:=qai hr (by omega)
           obtain ⟨bc,off2,rfl,hbB2⟩:=qai hr2 (by omega)
           obtain ⟨p0,p1,p2⟩:wr.cell? ⟨bb,off+j*3,none⟩=some (.int .i64 (gt a.O j).agent)∧wr.cell? ⟨bb,off+j*3+1,none⟩=some (.int .i64 (gt a.O j).life)∧wr.cell? ⟨bb,off+j*3+2,none⟩=some (.int .i64 (gt a.O j).count):=⟨qab qao hr hlt (j:=0) rfl,qab qao hr hlt (j:=1) rfl,qab qao hr hlt (j:=2) rfl⟩
           obtain ⟨v0,v1,v2⟩:wr.cell? ⟨bc,off2+j*3,none⟩=some (.int .i64 (gt b.O j).agent)∧wr.cell? ⟨bc,off2+j*3+1,none⟩=some (.int .i64 (gt b.O j).life)∧wr.cell? ⟨bc,off2+j*3+2,none⟩=some (.int .i64 (gt b.O j).count):=⟨qab qao hr2 hlt2 (j:=0) rfl,qab qao hr2 hlt2 (j:=1) rfl,qab qao hr2 hlt2 (j:=2) rfl⟩
           have i0:(0:Int)≤(j:Int):=by omega
           have i9:(j:Int)<(a.O.length:Int):=by omega
           have i8:(j:Int)<(b.O.length:Int):=by omega
           have hq:=fun W=>neq_ow W (gt a.O j) (gt b.O j)
           have HNo:Hid (gt a.O j≠gt b.O j→out=false):=Jh fun hh=>by rw [HS2.out,dcf (show ¬ a.O=b.O from fun e=>hh (by rw [e]))];(try simp)
           have HY:Hid (gt a.O j=gt b.O j→∀ i,i<j+1→gt a.O i=gt b.O i):=Jh fun hh i hi=>by
            rcases Nat.lt_or_ge i j with h1|h1
            ·exact HF.out i h1
            ·obtain rfl:i=j:=by omega
             exact hh
           clear hr hr2 HF hlt2
           generalize gt a.O j=x at *
           generalize gt b.O j=y at *
           by_cases he:x=y
           ·have hq':∀ W,(binOp .neq 26 (.agg #[.int .i64 x.agent,.int .i64 x.life,.int .i64 x.count]) (.agg #[.int .i64 y.agent,.int .i64 y.life,.int .i64 y.count])).run Tryz.prog W=.ok (.bool false) W:=fun W=>by rw [hq,dct he];rfl
            have HY2:=Jh (HY.out he)
            clear hq he
            go_wp2_with fail
            go_quiet (fail)
            go_wp2
            go_roundw
            case rel=>exact ⟨j+1,by omega,by go_num,HY2,Jh (qaa HW.out _)⟩
            case measure=>simp [intOf];omega
           ·have hq':∀ W,(binOp .neq 26 (.agg #[.int .i64 x.agent,.int .i64 x.life,.int .i64 x.count]) (.agg #[.int .i64 y.agent,.int .i64 y.life,.int .i64 y.count])).run Tryz.prog W=.ok (.bool true) W:=fun W=>by rw [hq,dcf he];rfl
            have HV:=Jh (HNo.out he)
            clear hq he
            go_wp2_with fail
            go_quiet (fail)
            go_wp2
            go_ret
            exact ⟨by rw [HV.out];rfl,qaa (HB0.out _ HW.out).1 _⟩
          obtain rfl:j=a.O.length:=by omega
          have HS3:Hid (out=true):=Jh (by rw [HS2.out,dct (show a.O=b.O from eq_all HL5.out HF.out)])
          clear HS2 HF HO1 HO2
          go_wp2
          go_ret
          exact ⟨by rw [HS3.out];rfl,hb00⟩
      ·have te5:((a.O.length:Int) != (b.O.length:Int))=true:=net (by omega)
       have HV:=Jh (qel (show headB a b=false by rw [HHd.out];simp [e5]))
       clear HHd
       (try clear e0);(try clear e1);(try clear e2);(try clear e3);(try clear e4);(try clear e5)
       generalize sameM a b=out at *
       go_wp2
       go_ret
       exact ⟨by rw [HV.out];rfl,(HB0.out _ HW.out).1⟩
     ·have te4:((a.M.length:Int) != (b.M.length:Int))=true:=net (by omega)
      have HV:=Jh (qel (show headB a b=false by rw [HHd.out];simp [e4]))
      clear HHd
      (try clear e0);(try clear e1);(try clear e2);(try clear e3);(try clear e4);(try clear e5)
      generalize sameM a b=out at *
      go_wp2
      go_ret
      exact ⟨by rw [HV.out];rfl,(HB0.out _ HW.out).1⟩
    ·have te3:((a.E.length:Int) != (b.E.length:Int))=true:=net (by omega)
     have HV:=Jh (qel (show headB a b=false by rw [HHd.out];simp [e3]))
     clear HHd
     (try clear e0);(try clear e1);(try clear e2);(try clear e3);(try clear e4);(try clear e5)
     generalize sameM a b=out at *
     go_wp2
     go_ret
     exact ⟨by rw [HV.out];rfl,(HB0.out _ HW.out).1⟩
   ·have te2:(a.fence != b.fence)=true:=net e2
    have HV:=Jh (qel (show headB a b=false by rw [HHd.out];simp [e2]))
    clear HHd
    (try clear e0);(try clear e1);(try clear e2);(try clear e3);(try clear e4);(try clear e5)
    generalize sameM a b=out at *
    go_wp2
    go_ret
    exact ⟨by rw [HV.out];rfl,(HB0.out _ HW.out).1⟩
  ·have te1:(a.cut != b.cut)=true:=net e1
   have HV:=Jh (qel (show headB a b=false by rw [HHd.out];simp [e1]))
   clear HHd
   (try clear e0);(try clear e1);(try clear e2);(try clear e3);(try clear e4);(try clear e5)
   generalize sameM a b=out at *
   go_wp2
   go_ret
   exact ⟨by rw [HV.out];rfl,(HB0.out _ HW.out).1⟩
 ·have te0:(a.gen != b.gen)=true:=net e0
  have HV:=Jh (qel (show headB a b=false by rw [HHd.out];simp [e0]))
  clear HHd
  (try clear e0);(try clear e1);(try clear e2);(try clear e3);(try clear e4);(try clear e5)
  generalize sameM a b=out at *
  go_wp2
  go_ret
  exact ⟨by rw [HV.out];rfl,(HB0.out _ HW.out).1⟩
def d0:Ed:=⟨[],[],[⟨1,5⟩],0,0,⟨1,1,1⟩⟩
theorem appE_zero {m:Md} {d:Ed}:appE m d=0↔Fine m d∧(ents m d).length≤256:=by
 unfold appE
 constructor
 ·intro h
  by_cases h0:refE m d=0
  ·rw [if_neg (by rw [h0];decide)] at h
   refine ⟨refE_fine.1 h0,?_⟩
   by_cases h1:256<(ents m d).length
   ·rw [if_pos h1] at h;cases h
   ·omega
  ·rw [if_pos h0] at h
   exact absurd h h0
 ·rintro ⟨h,hl⟩
  rw [if_neg (by rw [refE_fine.2 h];decide),if_neg (by omega)]
theorem appM_ok {m:Md} {d:Ed} (h:appE m d=0):appM m d=appl m d:=if_pos h
theorem maxI_l (a b:Int):a≤maxI a b:=by unfold maxI;split<;>omega
theorem maxI_lt {a b c:Int} (h:a<c) (h':b<c):maxI a b<c:=by unfold maxI;split<;>omega
structure FineF (m:Md) (d:Ed):Prop where
 r:RightF m
 e:EditF d
 exi:∀ x∈d.add,∀ y∈m.E,y.key=x.key→y.key∈d.drop
 lost:∀ k∈d.drop,∃ x∈m.E,x.key=k
 fen:∀ x∈d.add,m.fence≤x.born∧d.fence≤x.born
 dup:∀ x∈d.marks,seqL x.maker m.M<x.seq
 ver:∀ x∈m.O,ver1 d x=false
 gen:m.gen≠1099511627775
theorem Fine.f {m:Md} {d:Ed} (h:Fine m d):FineF m d where
 r:=qcb h.right
 e:=edit_f h.edit
 exi:=fun x hx y hy e=>by
  have h1:=List.any_eq_false.1 h.exi x hx
  unfold exi1 at h1
  simp only [Bool.and_eq_true,hasK_iff,Bool.not_eq_true',not_and,Bool.not_eq_false] at h1
  rw [e]
  exact has_mem.1 (h1 ⟨y,hy,e⟩)
 lost:=fun k hk=>by
  have h1:=List.any_eq_false.1 h.lost k hk
  unfold lost1 at h1
  simp only [Bool.not_eq_true',Bool.not_eq_false] at h1
  exact hasK_iff.1 h1
 fen:=fun x hx=>by
  have h1:=List.any_eq_false.1 h.fen x hx
  unfold fen1 at h1
  simp only [Bool.or_eq_true,decide_eq_true_eq,not_or] at h1
  omega
 dup:=fun x hx=>by
  have h1:=List.any_eq_false.1 h.dup x hx
  unfold dup1 at h1
  simp only [decide_eq_true_eq] at h1
  omega
 ver:=fun x hx=>by
  have h1:=List.any_eq_false.1 h.ver x hx
  simpa using h1
 gen:=h.gen
theorem en_in {x:En} (h:enB x=true):x.key.size≤40∧1≤x.key.size:=by
 unfold enB keyB at h
 simp only [Bool.and_eq_true,decide_eq_true_eq] at h
 have h2:KeyP x.key:=h.1.1.1.1.1.1.1.1.1.2
 exact ⟨h2.2.1,h2.1⟩
theorem en_ok {x:En} (h:enB x=true):x.key.size≤maxLen:=Nat.le_trans (en_in h).1 (by unfold maxLen;omega)
theorem FineF.srt {m:Md} {d:Ed} (h:FineF m d):(ents m d).Pairwise fun a b=>ltE a b=true :=
 ents_srt h.r.srtE h.e.ndA (fun x hx y hy hk e=>hk (h.exi x hx y hy e)) (fun x hx=>en_ok (h.r.enE x hx)) (fun x hx=>en_ok (h.e.enA x hx))
theorem FineF.rises {m:Md} {d:Ed} (h:FineF m d):d.marks.Pairwise fun x y=>x.maker=y.maker→x.seq<y.seq:=by
 refine h.e.srtP.imp_of_mem fun {x y} hx hy hxy e=>?_
 rw [ltP_mk (h.e.mkA x hx) (h.e.mkA y hy)] at hxy
 simp only [Bool.or_eq_true,Bool.and_eq_true,decide_eq_true_eq] at hxy
 omega
theorem FineF.seq {m:Md} {d:Ed} (h:FineF m d) (k:Int):seqL k (mrks m d)=bestM k d.marks (seqL k m.M):=by
 unfold mrks
 rw [seq_putMs]
 exact last_best h.rises fun x hx e=>by rw [← e];exact h.dup x hx
theorem FineF.right {m:Md} {d:Ed} (h:FineF m d) (hl:(ents m d).length≤256):RightF (appl m d) where
 gen:=by have:=h.r.gen;have:=h.gen;show 0≤m.gen+1∧m.gen+1<_;omega
 cut:=⟨Int.le_trans h.r.cut.1 (maxI_l _ _),maxI_lt h.r.cut.2 h.e.cut.2⟩
 fence:=⟨Int.le_trans h.r.fence.1 (maxI_l _ _),maxI_lt h.r.fence.2 h.e.fence.2⟩
 lenE:=hl
 low:=fun x hx=>(ents_mem.1 hx).2
 enE:=fun x hx=>by
  rcases (ents_mem.1 hx).1 with h1|h1
  ·exact h.e.enA x h1
  ·exact h.r.enE x h1.1
 srtE:=h.srt
 mkM:=fun x hx=>by
  rcases qd6 d.marks h.r.srtM hx with h1|h1
  ·exact h.e.mkA x h1
  ·exact h.r.mkM x h1
 srtM:=qci d.marks h.r.srtM
 owO:=fun x hx=>by
  rcases (qd4 h.r.srtO).1 hx with rfl|h1
  ·exact h.e.ow
  ·exact h.r.owO x h1.1
 srtO:=qd5 h.r.srtO
def KU (b:Option Nat) (w w':World):Prop:=∀ k t cs fr,w.heap[k]?=some (.cells cs t fr)→t≠5→some k≠b→w'.heap[k]?=w.heap[k]?
section
variable {w w' w'':World} {b:Option Nat}
theorem KU.refl (b:Option Nat) (w:World):KU b w w:=fun _ _ _ _ _ _ _=>rfl
theorem KU.trans (h:KU b w w') (h':KU b w' w''):KU b w w'':=fun k t cs fr hk ht hb=>by
 have h1:=h k t cs fr hk ht hb
 rw [h' k t cs fr (h1.trans hk) ht hb,h1]
theorem KU.below (h:Below w.heap.size w w'):KU b w w':=fun k _ _ _ hk _ _=>h.block k (hlt hk)
theorem KU.low (h:KU none w w'):KU b w w':=fun k t cs fr hk ht _=>h k t cs fr hk ht (by simp)
theorem KU.alloc (h:KU b w w') (o:Obj):KU b w (w'.alloc o):=h.trans (KU.below ((Below.refl _ _).alloc (Nat.le_refl _) o))
theorem KU.grown {base n:Nat} {v:Value} {xs:List Value} (h:w.grownBy w' v.ownBlock) (ho:w.ownsRow base 5 1 v n xs):KU b w w':=fun k t cs fr hk ht _=>by
 refine h.block k (hlt hk) fun e=>?_
 rcases ho.2 with ⟨rfl,_⟩|⟨g,cap,cur,rfl,_,hg,_⟩
 ·cases e
 ·injection e with e
  subst e
  rw [hk] at hg
  injection hg with hg
  injection hg with _ hg
  exact ht hg
theorem KU.set (h:KU b w w') {g:Nat} (hb:b=some g) (i:Nat) (v:Value):KU b w (w'.setCell ⟨g,i,none⟩ v):=fun k t cs fr hk ht hkb=>by
 have h1:=h k t cs fr hk ht hkb
 exact (Below.heap_setCell w' ⟨g,i,none⟩ v k (by rintro rfl;exact hkb hb.symm)).trans h1
theorem KU.blk {g:Nat} {t:TypeId} {cs:Array Value} (h:KU b w w') (hg:Blk w g t cs) (ht:t≠5) (hb:some g≠b):Blk w' g t cs:=(h g t cs (0,0) hg ht hb).trans hg
end
theorem qdr (s:ByteArray):Lib.strCells s=s.data.toList.map byteV:=rfl
def OwnB (w:World) (base:Nat) (A:Option Addr) (c:Nat) (l:List UInt8):Prop:=w.ownsRow base 5 1 (.slice A l.length c) l.length (l.map byteV) ∨
 ∃ g cs fr,A=some ⟨g,0,none⟩∧c=l.length∧base≤g∧w.heap[g]?=some (.cells cs 5 fr)∧∀ j u,(l.map byteV)[j]?=some u→w.cell? ⟨g,j,none⟩=some u
theorem OwnB.below {w w':World} {base c:Nat} {A:Option Addr} {l:List UInt8} (h:OwnB w base A c l) (hb:Below w.heap.size w w'):OwnB w' base A c l:=by
 rcases h with h|⟨g,cs,fr,rfl,hc,hg,hh,hcell⟩
 ·exact .inl (qak h hb)
 ·exact .inr ⟨g,cs,fr,rfl,hc,hg,(hb.block g (hlt hh)).trans hh,fun j u hu=>(hb.cell (p:=⟨g,j,none⟩) (hlt hh)).trans (hcell j u hu)⟩
theorem OwnB.bytes {w:World} {base c:Nat} {A:Option Addr} {l:List UInt8} (h:OwnB w base A c l):Bytes w w.heap.size A l.length l:=by
 rcases h with h|⟨g,cs,fr,rfl,hc,hg,hh,hcell⟩
 ·exact qbd h
 ·refine ⟨rfl,by simp,fun _=>⟨g,0,rfl,hlt hh,fun j u hu=>?_⟩⟩
  rw [Nat.zero_add];exact hcell j u hu
theorem OwnB.cap {w:World} {base c:Nat} {A:Option Addr} {l:List UInt8} (h:OwnB w base A c l):l.length≤c:=by
 rcases h with h|⟨g,cs,fr,rfl,hc,hg,hh,hcell⟩
 ·rcases h.2 with ⟨_,h0⟩|⟨g,cap,cur,hv,_,_,hc,_⟩
  ·omega
  ·injection hv with _ _ hv
   omega
 ·omega
theorem OwnB.set {w:World} {base c:Nat} {A:Option Addr} {l:List UInt8} (h:OwnB w base A c l) {g:Nat} {t:TypeId} {cs:Array Value} (hg:Blk w g t cs) (ht:t≠5) (i:Nat) (v:Value):OwnB (w.setCell ⟨g,i,none⟩ v) base A c l:=by
 rcases h with h|⟨g',cs',fr,rfl,hc,hg',hh,hcell⟩
 ·refine .inl ⟨h.1,?_⟩
  rcases h.2 with h2|⟨k,cap,cur,hv,hk,hh,rest⟩
  ·exact .inl h2
  ·have hne:k≠g:=by
    rintro rfl
    unfold Blk at hg
    rw [hh] at hg
    injection hg with hg
    injection hg with _ hg
    exact ht hg.symm
   exact .inr ⟨k,cap,cur,hv,hk,(Below.heap_setCell w ⟨g,i,none⟩ v k hne).trans hh,rest⟩
 ·have hne:g'≠g:=by
   rintro rfl
   unfold Blk at hg
   rw [hh] at hg
   injection hg with hg
   injection hg with _ hg
   exact ht hg.symm
  exact .inr ⟨g',cs',fr,rfl,hc,hg',(Below.heap_setCell w ⟨g,i,none⟩ v g' hne).trans hh,fun j u hu=>(World.cell?_setCell_other w ⟨g,i,none⟩ ⟨g',j,none⟩ v (fun e=>hne (by injection e with e;exact e.symm))).trans (hcell j u hu)⟩
section
variable {P:Program} (w:World)
theorem run_append_B (base:Nat) (t ty:TypeId) (ht:P.underlying t=some (.slice 5)) (hi:(P.info? 5).map (fun i=>(i.zero,i.size,i.bytes))=some (some (.int .u8 0),1,1))
  {A:Option Addr} {c:Nat} {l:List UInt8} (hown:OwnB w base A c l) {B c2:Nat} {A2:Option Addr} {x:List UInt8} (hx:Bytes w B A2 x.length x) (h0:0<x.length) (hl:l.length+x.length≤100000100) (hbase:base≤w.heap.size) :
  ∃ A' c' w',(Builtin.append_ #[t,t] ty #[.slice A l.length c,.slice A2 x.length c2]).run P w=.ok (.slice A' (l++x).length c') w'∧w'.ownsRow base 5 1 (.slice A' (l++x).length c') (l++x).length ((l++x).map byteV)∧Below base w w'∧KU none w w':=by
 have hlen:(l++x).length=l.length+x.length:=List.length_append
 rcases hown with h|⟨g,cs,fr,rfl,rfl,hg,hh,hcell⟩
 ·obtain ⟨i,hi,hz,hsz,hby⟩:=info_parts hi
  obtain ⟨v',w',hr,h2,h3,h4⟩:=qdm (P:=P) w base t ty 5 i _ 1 1 ht hi hz hsz hby rfl (by omega) _ l.length _ h B A2 x.length c2 (x.map byteV) hx.2 (qbs _) (by unfold maxLen;omega) (by omega) hbase
  rw [← List.map_append,← hlen] at h2
  obtain ⟨A',c',rfl,k1,k2,k3⟩:=qbc h2
  exact ⟨A',c',w',hr,h2,(Below.refl base w).grown h3 hbase (fun k hk=>(h.lt k hk).1),KU.grown h3 h⟩
 ·obtain ⟨i,hi,hz,hsz,hby⟩:=info_parts hi
  obtain ⟨b2,off,rfl,_,hnews⟩:=hx.2.2 h0
  have hr:=run_append_grow (P:=P) w t ty 5 i _ ht hi hz ⟨g,0,none⟩ l.length l.length (l.map byteV) (by rw [hsz];simp) (fun j u hu=>by rw [qbo,Nat.zero_add];exact hcell j u hu) ⟨b2,off,none⟩ x.length c2 (x.map byteV) (by rw [hsz];simp) (fun j u hu=>by rw [qbo];exact hnews j u hu) (by omega) (by omega) (by rw [hby];exact growslice_fits (by omega) (by omega))
  have hge:=grownCap_ge w (l.length+x.length) l.length 5
  have hcm:grownCap w (l.length+x.length) l.length 5≤maxLen:=grownCap_le_maxLen w (l.length+x.length) l.length _ (by unfold maxLen;omega)
  rw [← hlen] at hr hge hcm
  refine ⟨_,_,_,hr,⟨by simp,.inr ⟨_,_,_,rfl,hbase,heap_alloc_new w.drew _,hge,hcm,?_,?_⟩⟩,?_,?_⟩
  ·have hz1:(Value.int IntKind.u8 0).cells.size=1:=rfl
   simp only [Array.size_append,List.size_toArray,size_zeroCells,hz1,List.length_map]
   omega
  ·simp only [Array.toList_append,List.append_assoc]
   rw [← List.append_assoc,← List.map_append,Nat.mul_one]
   have e:(l++x).length=((l++x).map byteV).length:=by simp
   rw [e];exact List.take_left
  ·exact (qaa (Below.refl base w) 1).alloc hbase _
  ·exact KU.below ((qaa (Below.refl w.heap.size w) 1).alloc (Nat.le_refl _) _)
theorem wp_append_B {o:Oper} {a:Act} {K:Act→World→Prop} {Q:Exit→Act→World→Prop} (s x:Operand) (t:TypeId)
  (ho:o.op=.call { callee:=.builtin .append,args:=#[s,x],argTypes:=#[t,t] })
  (base:Nat) (ht:P.underlying t=some (.slice 5)) (hi:(P.info? 5).map (fun i=>(i.zero,i.size,i.bytes))=some (some (.int .u8 0),1,1))
  {A:Option Addr} {c:Nat} {l:List UInt8} (hs:a.eval s=.slice A l.length c) (hown:OwnB w base A c l) {B c2:Nat} {A2:Option Addr} {y:List UInt8} (hx:a.eval x=.slice A2 y.length c2) (hy:Bytes w B A2 y.length y) (h0:0<y.length) (hl:l.length+y.length≤100000100) (hbase:base≤w.heap.size)
  (h:∀ A' c' w',w'.ownsRow base 5 1 (.slice A' (l++y).length c') (l++y).length ((l++y).map byteV)→Below base w w'→KU none w w'→K (a.put o.dst (.slice A' (l++y).length c')) w'):o.wp P a w K Q:=by
 obtain ⟨A',c',w',hr,h2,h3,h4⟩:=run_append_B (P:=P) w base t o.type ht hi hown (c2:=c2) hy h0 hl hbase
 unfold Oper.wp execOp
 simp only [ho,resolve,invoke,builtin,Sem.run_bind,Sem.run_pure,Result.andThen_ok,List.map_toArray,List.map_cons,List.map_nil,hs,hx,hr]
 exact h A' c' w' h2 h3 h4
theorem wpList_append_B {ops:Array Oper} {rest:List Oper} {o:Oper} {a:Act} {Q:Exit→Act→World→Prop} (hgd:o.guard=none) (s x:Operand) (t:TypeId)
  (ho:o.op=.call { callee:=.builtin .append,args:=#[s,x],argTypes:=#[t,t] })
  (base:Nat) (ht:P.underlying t=some (.slice 5)) (hi:(P.info? 5).map (fun i=>(i.zero,i.size,i.bytes))=some (some (.int .u8 0),1,1))
  {A:Option Addr} {c:Nat} {l:List UInt8} (hs:a.eval s=.slice A l.length c) (hown:OwnB w base A c l) {B c2:Nat} {A2:Option Addr} {y:List UInt8} (hx:a.eval x=.slice A2 y.length c2) (hy:Bytes w B A2 y.length y) (h0:0<y.length) (hl:l.length+y.length≤100000100) (hbase:base≤w.heap.size)
  (h:∀ A' c' w',w'.ownsRow base 5 1 (.slice A' (l++y).length c') (l++y).length ((l++y).map byteV)→Below base w w'→KU none w w'→wpList P ops Q rest (a.put o.dst (.slice A' (l++y).length c')) w'):wpList P ops Q (o::rest) a w :=
 wpList_plain hgd fun _ hK=>wp_append_B w s x t ho base ht hi hs hown hx hy h0 hl hbase fun A' c' w' h2 h3 h4=>hK _ _ (h A' c' w' h2 h3 h4)
theorem step_append_B {ops:Array Oper} {o:Oper} {a:Act} {K:Act→World→Prop} {Q:Exit→Act→World→Prop} {E:Prop} (hgd:o.guard=none) (s x:Operand) (t:TypeId)
  (ho:o.op=.call { callee:=.builtin .append,args:=#[s,x],argTypes:=#[t,t] })
  (base:Nat) (ht:P.underlying t=some (.slice 5)) (hi:(P.info? 5).map (fun i=>(i.zero,i.size,i.bytes))=some (some (.int .u8 0),1,1))
  {A:Option Addr} {c:Nat} {l:List UInt8} (hs:a.eval s=.slice A l.length c) (hown:OwnB w base A c l) {B c2:Nat} {A2:Option Addr} {y:List UInt8} (hx:a.eval x=.slice A2 y.length c2) (hy:Bytes w B A2 y.length y) (h0:0<y.length) (hl:l.length+y.length≤100000100) (hbase:base≤w.heap.size)
  (h:∀ A' c' w',w'.ownsRow base 5 1 (.slice A' (l++y).length c') (l++y).length ((l++y).map byteV)→Below base w w'→KU none w w'→K (a.put o.dst (.slice A' (l++y).length c')) w') :
  if Region.wanted o (yielded ops a.tmps)=true then Oper.wp P o a w K Q else E:=by
 have hw:Region.wanted o (yielded ops a.tmps)=true:=by simp [Region.wanted,hgd]
 rw [if_pos hw]
 exact wp_append_B w s x t ho base ht hi hs hown hx hy h0 hl hbase h
end
section
variable {P:Program} {w:World}
theorem qdb {ops:Array Oper} {o:Oper} {a:Act} {K:Act→World→Prop} {Q:Exit→Act→World→Prop} {E:Prop} (hgd:o.guard=none) (sl x:Operand) (t u:TypeId)
  (ho:o.op=.call { callee:=.builtin .append,args:=#[sl,x],argTypes:=#[t,u] })
  (base:Nat) (e:TypeId) (ht:P.underlying t=some (.slice e)) (hu:P.underlying u=some .string) (hi:(P.info? e).map (fun i=>(i.zero,i.size,i.bytes))=some (some (.int .u8 0),1,1))
  {v:Value} {l:List UInt8} (hs:a.eval sl=v) (hown:w.ownsRow base e 1 v l.length (l.map byteV)) {s:ByteArray} (hx:a.eval x=.string s)
  (hl:l.length+s.size≤100000000) (hbase:base≤w.heap.size)
  (h:∀ A' c' w',w'.ownsRow base e 1 (.slice A' (l++s.data.toList).length c') (l++s.data.toList).length ((l++s.data.toList).map byteV)→w.grownBy w' v.ownBlock→K (a.put o.dst (.slice A' (l++s.data.toList).length c')) w') :
  if Region.wanted o (yielded ops a.tmps)=true then Oper.wp P o a w K Q else E:=by
 have hw:Region.wanted o (yielded ops a.tmps)=true:=by simp [Region.wanted,hgd]
 rw [if_pos hw]
 obtain ⟨i,hi,hz,hsz,hby⟩:=info_parts hi
 obtain ⟨v',w',hr,h2,h3,h4⟩:=Lib.run_append_own_string (P:=P) w base t u o.type e i ht hu hi hz hsz hby v l.length _ hown s (by unfold maxLen;omega) (by omega) hbase
 have hlen:(l++s.data.toList).length=l.length+s.size:=by rw [List.length_append];rfl
 rw [qdr,← List.map_append,← hlen] at h2
 obtain ⟨A',c',rfl,k1,k2,k3⟩:=qbc h2
 unfold Oper.wp execOp
 simp only [ho,resolve,invoke,builtin,Sem.run_bind,Sem.run_pure,Result.andThen_ok,List.map_toArray,List.map_cons,List.map_nil,hs,hx,hr]
 exact h A' c' w' h2 h3
end
section
variable {P:Program} (w:World)
theorem run_append_S (base:Nat) (t u ty:TypeId) (ht:P.underlying t=some (.slice 5)) (hu:P.underlying u=some .string) (hi:(P.info? 5).map (fun i=>(i.zero,i.size,i.bytes))=some (some (.int .u8 0),1,1))
  {A:Option Addr} {c:Nat} {l:List UInt8} (hown:OwnB w base A c l) {s:ByteArray} (hl:l.length+s.size≤100000100) (hbase:base≤w.heap.size) :
  ∃ A' c' w',(Builtin.append_ #[t,u] ty #[.slice A l.length c,.string s]).run P w=.ok (.slice A' (l++s.data.toList).length c') w'∧OwnB w' base A' c' (l++s.data.toList)∧Below base w w'∧KU none w w':=by
 have hlen:(l++s.data.toList).length=l.length+s.size:=by rw [List.length_append];rfl
 rcases hown with h|⟨g,cs,fr,rfl,rfl,hg,hh,hcell⟩
 ·obtain ⟨i,hi,hz,hsz,hby⟩:=info_parts hi
  obtain ⟨v',w',hr,h2,h3,h4⟩:=Lib.run_append_own_string (P:=P) w base t u ty 5 i ht hu hi hz hsz hby _ l.length _ h s (by unfold maxLen;omega) (by omega) hbase
  rw [qdr,← List.map_append,← hlen] at h2
  obtain ⟨A',c',rfl,k1,k2,k3⟩:=qbc h2
  exact ⟨A',c',w',hr,.inl h2,(Below.refl base w).grown h3 hbase (fun k hk=>(h.lt k hk).1),KU.grown h3 h⟩
 ·obtain ⟨i,hi,hz,hsz,hby⟩:=info_parts hi
  by_cases h0:s.size=0
  ·have hn:s.data.toList=[]:=List.eq_nil_of_length_eq_zero h0
   have hf:=Lib.run_firstCells_string (P:=P) w 1 s
   have hsc:Lib.strCells s=[]:=by unfold Lib.strCells;rw [hn];rfl
   rw [h0,hsc] at hf
   refine ⟨_,l.length,w,?_,.inr ⟨g,cs,fr,rfl,by rw [hn,List.append_nil],hg,hh,by rw [hn,List.append_nil];exact hcell⟩,Below.refl _ _,KU.refl _ _⟩
   rw [hn,List.append_nil]
   simp [Builtin.append_,run_underlying ht,run_underlying hu,sizeOf,typeInfo,hi,hsz,Builtin.lenOf,h0,hf,storeCells]
  ·have hr:=Lib.run_append_grow_string (P:=P) w t u ty 5 i _ ht hu hi hz ⟨g,0,none⟩ l.length l.length (l.map byteV) (by rw [hsz];simp) (fun j u hu=>by rw [qbo,Nat.zero_add];exact hcell j u hu) s (by omega) (by omega) (by rw [hby];exact growslice_fits (by omega) (by omega))
   have hge:=grownCap_ge w (l.length+s.size) l.length 5
   have hcm:grownCap w (l.length+s.size) l.length 5≤maxLen:=grownCap_le_maxLen w (l.length+s.size) l.length _ (by unfold maxLen;omega)
   rw [← hlen] at hr hge hcm
   refine ⟨_,_,_,hr,.inl ⟨by simp,.inr ⟨_,_,_,rfl,hbase,heap_alloc_new w.drew _,hge,hcm,?_,?_⟩⟩,?_,?_⟩
   ·have hz1:(Value.int IntKind.u8 0).cells.size=1:=rfl
    simp only [Array.size_append,List.size_toArray,size_zeroCells,hz1,List.length_map,Lib.strCells_length]
    omega
   ·simp only [Array.toList_append,List.append_assoc]
    rw [← List.append_assoc,qdr,← List.map_append,Nat.mul_one]
    have e:(l++s.data.toList).length=((l++s.data.toList).map byteV).length:=by simp
    rw [e];exact List.take_left
   ·exact (qaa (Below.refl base w) 1).alloc hbase _
   ·exact KU.below ((qaa (Below.refl w.heap.size w) 1).alloc (Nat.le_refl _) _)
theorem wp_append_S {o:Oper} {a:Act} {K:Act→World→Prop} {Q:Exit→Act→World→Prop} (sl x:Operand) (t u:TypeId)
  (ho:o.op=.call { callee:=.builtin .append,args:=#[sl,x],argTypes:=#[t,u] })
  (base:Nat) (ht:P.underlying t=some (.slice 5)) (hu:P.underlying u=some .string) (hi:(P.info? 5).map (fun i=>(i.zero,i.size,i.bytes))=some (some (.int .u8 0),1,1))
  {A:Option Addr} {c:Nat} {l:List UInt8} (hs:a.eval sl=.slice A l.length c) (hown:OwnB w base A c l) {s:ByteArray} (hx:a.eval x=.string s) (hl:l.length+s.size≤100000100) (hbase:base≤w.heap.size)
  (h:∀ A' c' w',OwnB w' base A' c' (l++s.data.toList)→Below base w w'→KU none w w'→K (a.put o.dst (.slice A' (l++s.data.toList).length c')) w'):o.wp P a w K Q:=by
 obtain ⟨A',c',w',hr,h2,h3,h4⟩:=run_append_S (P:=P) w base t u o.type ht hu hi hown hl hbase
 unfold Oper.wp execOp
 simp only [ho,resolve,invoke,builtin,Sem.run_bind,Sem.run_pure,Result.andThen_ok,List.map_toArray,List.map_cons,List.map_nil,hs,hx,hr]
 exact h A' c' w' h2 h3 h4
theorem qem {ops:Array Oper} {rest:List Oper} {o:Oper} {a:Act} {Q:Exit→Act→World→Prop} (hgd:o.guard=none) (sl x:Operand) (t u:TypeId)
  (ho:o.op=.call { callee:=.builtin .append,args:=#[sl,x],argTypes:=#[t,u] })
  (base:Nat) (ht:P.underlying t=some (.slice 5)) (hu:P.underlying u=some .string) (hi:(P.info? 5).map (fun i=>(i.zero,i.size,i.bytes))=some (some (.int .u8 0),1,1))
  {A:Option Addr} {c:Nat} {l:List UInt8} (hs:a.eval sl=.slice A l.length c) (hown:OwnB w base A c l) {s:ByteArray} (hx:a.eval x=.string s) (hl:l.length+s.size≤100000100) (hbase:base≤w.heap.size)
  (h:∀ A' c' w',OwnB w' base A' c' (l++s.data.toList)→Below base w w'→KU none w w'→wpList P ops Q rest (a.put o.dst (.slice A' (l++s.data.toList).length c')) w'):wpList P ops Q (o::rest) a w :=
 wpList_plain hgd fun _ hK=>wp_append_S w sl x t u ho base ht hu hi hs hown hx hl hbase fun A' c' w' h2 h3 h4=>hK _ _ (h A' c' w' h2 h3 h4)
end
def Nums (w:World) (g:Nat) (L:List Int):Prop:=∃ cs:Array Value,Blk w g 3 cs∧∀ j,j<L.length→cs[j]?=some (.int .i64 (gt L j))
theorem Nums.keep {w w':World} {g:Nat} {L:List Int} {b:Option Nat} (h:Nums w g L) (hk:KU b w w') (hb:some g≠b):Nums w' g L:=by
 obtain ⟨cs,h1,h2⟩:=h
 exact ⟨cs,hk.blk h1 (by decide) hb,h2⟩
theorem Nums.cell {w:World} {g:Nat} {L:List Int} (h:Nums w g L) {j:Nat} (hj:j<L.length):w.cell? ⟨g,j,none⟩=some (.int .i64 (gt L j)):=by
 obtain ⟨cs,h1,h2⟩:=h
 rw [h1.cell,h2 j hj]
theorem us_take {L:List Int} {j x:Nat} (hj:j<L.length) (hx:gt L j=(x:Int)):us (L.take (j+1))=us (L.take j)++Nu.putU x:=by
 rw [qbg hj,us_app,hx]
 simp [us]
theorem us_room {L:List Int} (j:Nat) (h:∀ n∈L,0≤n∧n≤9223372036854775807):(us (L.take j)).length≤10*L.length:=by
 have:=us_len (L.take j) (fun n hn=>by have:=h n (List.mem_of_mem_take hn);omega)
 have h2:(L.take j).length≤L.length:=by rw [List.length_take];omega
 omega
theorem us_all (L:List Int):us (L.take L.length)=us L:=by rw [List.take_length]
def RetU (base:Nat) (w:World) (l:List UInt8) (e:Ending) (w':World):Prop:=∃ A c,e=.returned (.slice A l.length c)∧w'.ownsRow base 5 1 (.slice A l.length c) l.length (l.map byteV)∧Below base w w'∧KU none w w'
set_option maxRecDepth 100000 in
set_option maxHeartbeats 1600000 in
theorem u_calls (w:World) {base g c c2:Nat} {A:Option Addr} {l:List UInt8} {L:List Int} (hown:OwnB w base A c l) (hL:Nums w g L) (h0:∀ n∈L,0≤n∧n≤9223372036854775807) (hn:0<L.length) (hl:l.length+10*L.length≤100000000) (hb:base≤w.heap.size) :
  Calls Tryz.prog 39 #[.slice A l.length c,.slice (some ⟨g,0,none⟩) L.length c2] w (RetU base w (l++us L)):=by
 have H0:=Jh h0
 have HN:=Jh hn
 clear h0 hn
 have hw0:Hid (OwnB w base A c (l++us (L.take 0))):=Jh (by simpa [us] using hown)
 have hs0:Value.slice A l.length c=.slice A (l++us (L.take 0)).length c:=by simp [us]
 have HE:=Jh (us_all L)
 rw [hs0]
 clear hs0 hown
 go_enter Tryz.func39,Tryz.ntmps39
 go_wp2
 go_loopw [0,9] (fun v i wr=>∃ (j:Nat) (A':Option Addr) (c':Nat),j≤L.length∧i=.int .i64 (j:Int)∧v=.slice A' (l++us (L.take j)).length c'∧Hid (OwnB wr base A' c' (l++us (L.take j)))∧Hid (0<j→wr.ownsRow base 5 1 (.slice A' (l++us (L.take j)).length c') (l++us (L.take j)).length ((l++us (L.take j)).map byteV))∧Below base w wr∧KU none w wr) (fun _ i _=>L.length-(intOf i).toNat)
 case atStart=>exact ⟨0,A,c,Nat.zero_le _,rfl,rfl,hw0,Jh (fun h=>absurd h (by omega)),Below.refl _ _,KU.refl _ _⟩
 case round =>
  clear hw0
  obtain ⟨j,A',c',hj,rfl,rfl,Hown,Hstr,hbel,hku⟩:=hrel
  by_cases hlt:j<L.length
  ·have cj:=(hL.keep hku (by simp)).cell hlt
   have hx0:=H0.out _ (qax hlt)
   obtain ⟨x,hx⟩:∃ x:Nat,gt L j=(x:Int):=⟨(gt L j).toNat,by omega⟩
   have Hu:Hid (l++us (L.take (j+1))=(l++us (L.take j))++Nu.putU x):=Jh (by rw [us_take hlt hx,List.append_assoc])
   have Hr:=Jh (us_room j H0.out)
   rw [hx] at cj hx0
   clear hx Hstr
   have hpl:=Nu.putU_len10 (n:=x) (by omega)
   have hpp:=Nu.putU_pos x
   have HP:=fun W=>Nu.putURef_calls x W hpl (by omega)
   have hwx:IntKind.u64.wrap (x:Int)=(x:Int):=by rw [IntKind.wrap_u64];omega
   have Hsz:Hid ((l++us (L.take j)).length+(Nu.putU x).length≤100000100):=Jh (by rw [List.length_append];have:=Hr.out;omega)
   generalize l++us (L.take j)=pre at *
   go_wp2_with fail
   refine (HP wr).mono ?_
   rintro e w1 he
   obtain ⟨A1,c1,rfl,hc1,hm1,hb1,hbel1,hown1⟩:=he.opened
   have hown':=Hown.out.below hbel1
   have hbw:base≤w1.heap.size:=by have:=hbel.size;have:=hbel1.size;omega
   clear HP he hown1
   go_wp2_with (at_builtin;go_must (refine wpList_append_B _ rfl (.tmp 13) (.tmp 16) _ rfl base Tryz.underlying33 Nu.Tryz.infoU8 rfl hown' rfl hb1 hpp Hsz.out hbw ?_))
   intro A2 c2 w2 hown2 hbel2 hku2
   have hku2:KU none w w2:=(hku.trans (KU.below hbel1)).trans hku2
   have hbel3:Below base w w2:=(hbel.trans (hbel1.mono (by have:=hbel.size;omega))).trans hbel2
   have Hown2:Hid (w2.ownsRow base 5 1 (.slice A2 (pre++Nu.putU x).length c2) (pre++Nu.putU x).length ((pre++Nu.putU x).map byteV)):=Jh (by simpa using hown2)
   clear hown2 hown'
   go_wp2
   go_roundw
   case rel=>exact ⟨j+1,A2,c2,by omega,by go_num,by rw [Hu.out,List.length_append],by rw [Hu.out];exact Jh (.inl Hown2.out),by rw [Hu.out];exact Jh fun _=>Hown2.out,hbel3,hku2⟩
   case measure=>simp [intOf];omega
  ·obtain rfl:j=L.length:=by omega
   go_wp2
   go_ret
   rw [HE.out] at *
   exact ⟨A',c',rfl,Hstr.out HN.out,hbel,hku⟩
end Go.Proofs.YtibnehaibgbliaaGreat.Mf
