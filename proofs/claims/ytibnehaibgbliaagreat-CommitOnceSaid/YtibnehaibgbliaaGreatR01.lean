/- Laws for the row's walk. -/
import Derived.Test.YtibnehaibgbliaaGreatR00
import Derived.Lib.Builder
import Derived.Lib.AppendStr
import Derived.Lib.UnsafeStr
import Derived.Laws.Externs
import Derived.Laws.BitsLemmas
import Derived.Test.YtibnehaibgbliaaGreatShelf
import Derived.Lib.IndexMore
import Derived.Shelf.Vars
set_option linter.unusedVariables false
set_option linter.unusedSimpArgs false
open Go.Lib renaming hid → Jh
namespace Go.Proofs.YtibnehaibgbliaaGreat.Lb
open Go.RowKit
def lessB (a b:ByteArray):Bool:=Op.bytesLess a.toList b.toList
theorem lessB_trans {a b c:ByteArray} (h1:lessB a b=true) (h2:lessB b c=true):lessB a c=true:=by
 unfold lessB at *
 rw [bytesLess_eq,decide_eq_true_iff] at *
 exact List.lt_trans h1 h2
def okL (l:List Lab) (i:Nat):Prop:=nameB (labAt l i).1=true∧(labAt l i).2.size≤16∧(0<i→lessB (labAt l (i-1)).1 (labAt l i).1=true)
instance (l:List Lab) (i:Nat):Decidable (okL l i):=by unfold okL;infer_instance
def rightP (l:List Lab):Prop:=l.length≤4∧∀ i,i<l.length→okL l i
instance (l:List Lab):Decidable (rightP l):=by unfold rightP;infer_instance
def rightB (l:List Lab):Bool:=decide (rightP l)
theorem rightB_yes {l:List Lab} (h:rightP l):rightB l=true:=decide_eq_true h
theorem rightB_no {l:List Lab} (h:¬ rightP l):rightB l=false:=decide_eq_false h
theorem right_bad {l:List Lab} {k:Nat} (hk:k<l.length) (h:¬ okL l k):rightB l=false:=rightB_no fun h'=>h (h'.2 k hk)
theorem okL_step {l:List Lab} {k:Nat} (h:∀ i,i<k→okL l i) (ho:okL l k):∀ i,i<k+1→okL l i:=fun i hi=>by
 rcases Nat.lt_or_ge i k with h1|h1
 ·exact h i h1
 ·obtain rfl:i=k:=by omega
  exact ho
theorem chain {l:List Lab}:∀ i,(∀ j,j≤i→okL l j)→∀ k,k<i→lessB (labAt l k).1 (labAt l i).1=true
 | 0,_,k,hk=>absurd hk (by omega)
 | i+1,h,k,hk=>by
  have h1:=(h (i+1) (Nat.le_refl _)).2.2 (by omega)
  rw [Nat.add_sub_cancel] at h1
  rcases Nat.lt_or_ge k i with h2|h2
  ·exact lessB_trans (chain i (fun j hj=>h j (by omega)) k h2) h1
  ·obtain rfl:k=i:=by omega
   exact h1
theorem chain_bad {l:List Lab} {i k:Nat} (hi:i<l.length) (hk:k<i) (h:lessB (labAt l k).1 (labAt l i).1=false):rightB l=false:=rightB_no fun h'=>by
 have:=chain i (fun j hj=>h'.2 j (by omega)) k hk
 rw [h] at this;cases this
set_option maxRecDepth 100000 in
set_option maxHeartbeats 1600000 in
theorem right_calls (w:World) {B c:Nat} {A:Option Addr} {l:List Lab} (h:Labs w B A l) (hB:B≤w.heap.size) (hf:Fit l) (hn:l.length≤140737488355328) :
  Calls Tryz.prog 140 #[.slice A l.length c] w fun e w'=>e=.returned (.bool (rightB l))∧Below w.heap.size w w':=by
 have HF:=Jh (fit_at hf)
 clear hf
 go_enter Tryz.func140,Tryz.ntmps140
 go_wp2
 go_loopw [7] (fun i wr=>∃ k:Nat,k≤l.length∧i=.int .i64 (k:Int)∧Hid (∀ i,i<k→okL l i)∧Below w.heap.size w wr) (fun i _=>l.length-(intOf i).toNat)
 case atStart=>exact ⟨0,Nat.zero_le _,rfl,Jh fun i hi=>absurd hi (by omega),Below.refl _ _⟩
 case round =>
  obtain ⟨k,hk,rfl,hall,hbel⟩:=hrel
  by_cases hlt:k<l.length
  ·obtain ⟨b,off,rfl,hbB,hcell⟩:=(h.below (hbel.mono hB)).cellAt (show 0<l.length by omega)
   obtain ⟨c0,c1⟩:=hcell k hlt
   have hsz:=hbel.size
   obtain ⟨f0,f1⟩:=HF.out k
   have hN:=fun W=>name_calls (labAt l k).1 W f0
   have i0:(0:Int)≤(k:Int):=by omega
   have i9:(k:Int)<(l.length:Int):=by omega
   by_cases hnm:nameB (labAt l k).1=true
   ·rw [hnm] at hN
    have HN:=Jh hN
    clear hN
    by_cases hv:(labAt l k).2.size≤16
    ·have v1:¬ (16:Int)<((labAt l k).2.size:Int):=by omega
     have v2:decide ((16:Int)<((labAt l k).2.size:Int))=false:=dcf v1
     rcases Nat.eq_zero_or_pos k with hk0|hk0
     ·have Hok:=Jh (okL_step hall.out ⟨hnm,hv,fun h=>by omega⟩)
      have k1:¬ (0:Int)<(k:Int):=by omega
      have k2:decide (0<k)=false:=dcf (by omega)
      clear hcell hnm hk0
      generalize labAt l k=x at *
      go_wp2_with fail
      go_quiet ((go_at_call 153;exact quiet_left (HN.out _)))
      go_wp2
      go_roundw
      case rel=>exact ⟨k+1,by omega,by go_num,Hok,below_drewN_ (hbel.alloc hsz _) _⟩
      case measure=>simp [intOf];omega
     ·obtain ⟨d0,_⟩:=hcell (k-1) (by omega)
      have k1:(0:Int)<(k:Int):=by omega
      have k2:decide (0<k)=true:=dct hk0
      have j1:(1:Int)≤(k:Int):=by omega
      have j2:(0:Int)≤(k:Int)-1:=by omega
      have j3:(k:Int)-1<(l.length:Int):=by omega
      have j4:((k:Int)-1).toNat=k-1:=by omega
      have j5:IntKind.i64.wrap ((k:Int)-1)=(k:Int)-1:=IntWalk.i64_in _ (by omega)
      have hbw:b<wr.heap.size:=by omega
      have d1:(wr.alloc (.cells #[.string (labAt l k).1,.string (labAt l k).2] 172)).cell? ⟨b,off+(k-1)*2,none⟩=some (.string (labAt l (k-1)).1):=(World.cell?_alloc_lt _ _ _ hbw).trans d0
      by_cases hls:lessB (labAt l (k-1)).1 (labAt l k).1=true
      ·have Hok:=Jh (okL_step hall.out ⟨hnm,hv,fun _=>hls⟩)
       have q:Op.bytesLess (labAt l (k-1)).1.toList (labAt l k).1.toList=true:=hls
       clear hcell hnm hk0 hls d0
       generalize labAt l (k-1)=y at *
       generalize labAt l k=x at *
       go_wp2_with fail
       go_quiet ((go_at_call 153;exact quiet_left (HN.out _)))
       clear j5
       go_wp2
       go_roundw
       case rel=>exact ⟨k+1,by omega,by go_num,Hok,below_drewN_ (hbel.alloc hsz _) _⟩
       case measure=>simp [intOf];omega
      ·have hls':lessB (labAt l (k-1)).1 (labAt l k).1=false:=by simpa using hls
       have Hno:=Jh (right_bad hlt (fun ho=>hls (ho.2.2 hk0)))
       have q:Op.bytesLess (labAt l (k-1)).1.toList (labAt l k).1.toList=false:=hls'
       clear hcell hnm hk0 hls hls' d0
       generalize labAt l (k-1)=y at *
       generalize labAt l k=x at *
       go_wp2_with fail
       go_quiet ((go_at_call 153;exact quiet_left (HN.out _)))
       clear j5
       go_wp2
       go_ret
       exact ⟨by rw [Hno.out];rfl,below_drewN_ (hbel.alloc hsz _) _⟩
    ·have Hno:=Jh (right_bad hlt (fun ho=>hv ho.2.1))
     have v1:(16:Int)<((labAt l k).2.size:Int):=by omega
     have v2:decide ((16:Int)<((labAt l k).2.size:Int))=true:=dct v1
     clear hcell hnm hv
     generalize labAt l k=x at *
     go_wp2_with fail
     go_quiet ((go_at_call 153;exact quiet_left (HN.out _)))
     go_wp2
     go_ret
     exact ⟨by rw [Hno.out];rfl,below_drewN_ (hbel.alloc hsz _) _⟩
   ·have Hno:=Jh (right_bad hlt (fun ho=>hnm ho.1))
    rw [show nameB (labAt l k).1=false by simpa using hnm] at hN
    have HN:=Jh hN
    clear hN hcell hnm
    generalize labAt l k=x at *
    go_wp2_with fail
    go_quiet ((go_at_call 153;exact quiet_left (HN.out _)))
    go_wp2
    go_ret
    exact ⟨by rw [Hno.out];rfl,below_drewN_ (hbel.alloc hsz _) _⟩
  ·obtain rfl:k=l.length:=by omega
   have hH:(l.length≤4∧rightB l=true)∨(¬ l.length≤4∧rightB l=false):=by
    by_cases h1:l.length≤4
    ·exact .inl ⟨h1,rightB_yes ⟨h1,hall.out⟩⟩
    ·exact .inr ⟨h1,rightB_no fun h=>h1 h.1⟩
   rcases hH with ⟨h1,h3⟩|⟨h1,h3⟩
   all_goals
    have H3:=Jh h3
    clear h3
    try (have d4:decide ((l.length:Int)≤4)=true:=dct (by omega))
    try (have e4:decide ((l.length:Int)≤4)=false:=dcf (by omega))
    go_wp2
    go_ret
    exact ⟨by rw [H3.out];rfl,hbel⟩
set_option maxRecDepth 100000 in
set_option maxHeartbeats 1600000 in
theorem rightR_calls (w:World) {B c:Nat} {A:Option Addr} {l:List Lab} (h:Labs w B A l) (hf:Fit l) (hn:l.length≤140737488355328) :
  Calls Tryz.prog 113 #[.slice A l.length c] w fun e w'=>e=.returned (.bool (rightB l))∧Below w.heap.size w w':=by
 have HF:=Jh (fit_at hf)
 clear hf
 by_cases h4:4<l.length
 ·have Hno:=Jh (rightB_no (l:=l) fun h=>by have:=h.1;omega)
  go_enter Tryz.func113,Tryz.ntmps113
  go_wp2
  go_ret
  exact ⟨by rw [Hno.out];rfl,Below.refl _ _⟩
 ·go_enter Tryz.func113,Tryz.ntmps113
  go_wp2
  go_loopw [10] (fun i wr=>∃ k n:Nat,k≤l.length∧i=.int .i64 (k:Int)∧Hid (∀ i,i<k→okL l i)∧wr=w.drewN n) (fun i _=>l.length-(intOf i).toNat)
  case atStart=>exact ⟨0,0,Nat.zero_le _,rfl,Jh fun i hi=>absurd hi (by omega),rfl⟩
  case round =>
   obtain ⟨k,n,hk,rfl,hall,rfl⟩:=hrel
   by_cases hlt:k<l.length
   ·obtain ⟨b,off,rfl,hbB,hcell⟩:=h.cellAt (show 0<l.length by omega)
    obtain ⟨c0,c1⟩:=hcell k hlt
    obtain ⟨f0,f1⟩:=HF.out k
    have hN:=fun W=>nameR_calls (labAt l k).1 W f0
    have i0:(0:Int)≤(k:Int):=by omega
    have i9:(k:Int)<(l.length:Int):=by omega
    by_cases hnm:nameB (labAt l k).1=true
    ·rw [hnm] at hN
     have HN:=Jh hN
     clear hN
     by_cases hv:(labAt l k).2.size≤16
     ·have v1:¬ (16:Int)<((labAt l k).2.size:Int):=by omega
      go_wp2_with fail
      refine (HN.out _).mono ?_
      rintro e w' ⟨rfl,rfl⟩
      go_wp2
      go_loopw [4] (fun i wr=>∃ j m:Nat,j≤k∧i=.int .i64 (j:Int)∧Hid (∀ i,i<j→lessB (labAt l i).1 (labAt l k).1=true)∧wr=w.drewN m) (fun i _=>k-(intOf i).toNat)
      case atStart=>exact ⟨0,n,Nat.zero_le _,rfl,Jh fun i hi=>absurd hi (by omega),rfl⟩
      case round =>
       obtain ⟨j,m,hj,rfl,hless,rfl⟩:=hrel
       by_cases hjk:j<k
       ·obtain ⟨d0,_⟩:=hcell j (by omega)
        have j0:(0:Int)≤(j:Int):=by omega
        have j9:(j:Int)<(l.length:Int):=by omega
        by_cases hls:lessB (labAt l j).1 (labAt l k).1=true
        ·have Hstep:Hid (∀ i,i<j+1→lessB (labAt l i).1 (labAt l k).1=true):=Jh fun i hi=>by
          rcases Nat.lt_or_ge i j with h1|h1
          ·exact hless.out i h1
          ·obtain rfl:i=j:=by omega
           exact hls
         have q:Op.bytesLess (labAt l j).1.toList (labAt l k).1.toList=true:=hls
         clear hls
         go_wp2_with fail
         go_quiet (fail)
         go_wp2
         go_roundw
         case rel=>exact ⟨j+1,m+nq,by omega,by go_num,Hstep,by simp⟩
         case measure=>simp [intOf];omega
        ·have hls':lessB (labAt l j).1 (labAt l k).1=false:=by simpa using hls
         have Hno:=Jh (chain_bad hlt hjk hls')
         have q:Op.bytesLess (labAt l j).1.toList (labAt l k).1.toList=false:=hls'
         clear hls hls'
         go_wp2_with fail
         go_quiet (fail)
         go_wp2
         go_ret
         exact ⟨by rw [Hno.out];rfl,below_drewN_ (below_drewN_ (Below.refl _ _) _) _⟩
       ·obtain rfl:j=k:=by omega
        have Hok:=Jh (okL_step hall.out ⟨hnm,hv,fun h=>hless.out (j-1) (by omega)⟩)
        go_wp2
        go_roundw
        case rel=>exact ⟨j+1,m,by omega,by go_num,Hok,rfl⟩
        case measure=>simp [intOf];omega
     ·have Hno:=Jh (right_bad hlt (fun ho=>hv ho.2.1))
      have v1:(16:Int)<((labAt l k).2.size:Int):=by omega
      clear hcell hnm hv
      generalize labAt l k=x at *
      go_wp2_with fail
      refine (HN.out _).mono ?_
      rintro e w' ⟨rfl,rfl⟩
      go_wp2
      go_ret
      exact ⟨by rw [Hno.out];rfl,below_drewN_ (Below.refl _ _) _⟩
    ·have Hno:=Jh (right_bad hlt (fun ho=>hnm ho.1))
     rw [show nameB (labAt l k).1=false by simpa using hnm] at hN
     have HN:=Jh hN
     clear hN hcell hnm
     generalize labAt l k=x at *
     go_wp2_with fail
     refine (HN.out _).mono ?_
     rintro e w' ⟨rfl,rfl⟩
     go_wp2
     go_ret
     exact ⟨by rw [Hno.out];rfl,below_drewN_ (Below.refl _ _) _⟩
   ·obtain rfl:k=l.length:=by omega
    have H3:=Jh (rightB_yes ⟨by omega,hall.out⟩)
    go_wp2
    go_ret
    exact ⟨by rw [H3.out];rfl,below_drewN_ (Below.refl _ _) _⟩
theorem Tryz.infoU8b:(Tryz.prog.info? 5).map (fun i=>(i.zero,i.size,i.bytes))=some (some (.int .u8 0),1,1):=by kernel_rfl
theorem strlen (s:ByteArray):s.data.toList.length=s.size:=by rw [Array.length_toList];rfl
theorem blk_reads {w:World} {g n:Nat} {t:TypeId} {cs:Array Value} {m:List UInt8} (h:Blk w g t cs) (hcs:cs.toList=m.map byteV) (hn:m.length=n):Reads w w.heap.size 1 (some ⟨g,0,none⟩) n (m.map byteV) :=
 ⟨by simp [hn],fun _=>⟨g,0,rfl,h.lt,fun j u hu=>by rw [Nat.zero_add,h.cell j,← hu,← hcs];simp⟩⟩
def plainB (c:UInt8):Bool:=decide (32≤c.toNat∧c.toNat≤126∧c.toNat≠34∧c.toNat≠92)
def digS:ByteArray:=⟨#[48,49,50,51,52,53,54,55,56,57,97,98,99,100,101,102]⟩
def dig16 (k:Nat):UInt8:=at8 digS k
def escB (c:UInt8):List UInt8:=if plainB c=true then [c] else [92,dig16 (c.toNat/16),dig16 (c.toNat%16)]
def valT (v:List UInt8):List UInt8:=v.flatMap escB
def labT (x:Lab):List UInt8:=x.1.data.toList++([61,34]++(valT x.2.data.toList++[34]))
def textK (l:List Lab) (k:Nat):List UInt8:=(List.range k).flatMap fun i=>(if 0<i then [44] else [])++labT (labAt l i)
def textB (l:List Lab):List UInt8:=123::(textK l l.length++[125])
theorem escB_plain {c:UInt8} (h:plainB c=true):escB c=[c]:=by unfold escB;rw [if_pos h]
theorem escB_hex {c:UInt8} (h:plainB c=false):escB c=[92,dig16 (c.toNat/16),dig16 (c.toNat%16)]:=by unfold escB;rw [if_neg (by simp [h])]
theorem valT_snoc (v:List UInt8) (c:UInt8):valT (v++[c])=valT v++escB c:=by simp [valT]
theorem escB_len (c:UInt8):(escB c).length≤3:=by unfold escB;split<;>simp
theorem valT_len:∀ v:List UInt8,(valT v).length≤3*v.length
 | []=>by simp [valT]
 | c::r=>by
  have h1:=escB_len c
  have h2:=valT_len r
  have e:valT (c::r)=escB c++valT r:=by simp [valT]
  rw [e,List.length_append,List.length_cons];omega
theorem textK_succ (l:List Lab) (k:Nat):textK l (k+1)=textK l k++((if 0<k then [44] else [])++labT (labAt l k)):=by
 unfold textK
 rw [List.range_succ,List.flatMap_append]
 simp
theorem labT_len {x:Lab} (h1:x.1.size≤8) (h2:x.2.size≤16):(labT x).length≤59:=by
 have h3:=valT_len x.2.data.toList
 have e1:=strlen x.1
 have e2:=strlen x.2
 unfold labT
 simp only [List.length_append,List.length_cons,List.length_nil]
 omega
theorem right_at {l:List Lab} (h:rightB l=true) {k:Nat} (hk:k<l.length):(labAt l k).1.size≤8∧(labAt l k).2.size≤16∧l.length≤4:=by
 have h':=of_decide_eq_true h
 have ho:=h'.2 k hk
 have hn:=of_decide_eq_true ho.1
 exact ⟨hn.2.1,ho.2.1,h'.1⟩
theorem textK_len {l:List Lab} (h:rightB l=true):∀ k,k≤l.length→(textK l k).length≤60*k
 | 0,_=>by simp [textK]
 | k+1,hk=>by
  have h1:=textK_len h k (by omega)
  obtain ⟨h2,h3,_⟩:=right_at h (show k<l.length by omega)
  have h4:=labT_len h2 h3
  rw [textK_succ,List.length_append,List.length_append]
  have h5:(if 0<k then ([44]:List UInt8) else []).length≤1:=by split<;>simp
  omega
theorem plain_calls (c:UInt8) (w:World):Calls Tryz.prog 152 #[.int .u8 (c.toNat:Int)] w fun e w'=>e=.returned (.bool (plainB c))∧w=w':=by
 have hcase:(plainB c=true∧32≤(c.toNat:Int)∧(c.toNat:Int)≤126∧((c.toNat:Int) != 34)=true∧((c.toNat:Int) != 92)=true) ∨
   (plainB c=false∧((c.toNat:Int)<32∨(32≤(c.toNat:Int)∧126<(c.toNat:Int))∨(32≤(c.toNat:Int)∧(c.toNat:Int)≤126∧((c.toNat:Int) != 34)=false)∨(32≤(c.toNat:Int)∧(c.toNat:Int)≤126∧((c.toNat:Int) != 34)=true∧((c.toNat:Int) != 92)=false))):=by
  have e1:((c.toNat:Int) != 34)=true↔c.toNat≠34:=by rw [bne_iff_ne];omega
  have e2:((c.toNat:Int) != 34)=false↔c.toNat=34:=by rw [bne_eq_false_iff_eq];omega
  have e3:((c.toNat:Int) != 92)=true↔c.toNat≠92:=by rw [bne_iff_ne];omega
  have e4:((c.toNat:Int) != 92)=false↔c.toNat=92:=by rw [bne_eq_false_iff_eq];omega
  unfold plainB
  rw [decide_eq_true_iff,decide_eq_false_iff_not,e1,e2,e3,e4]
  omega
 rcases hcase with ⟨hl,h1,h2,h3,h4⟩|⟨hl,h⟩
 ·have HL:=Jh hl
  clear hl
  have d1:decide ((c.toNat:Int)≤126)=true:=dct h2
  go_enter Tryz.func152,Tryz.ntmps152
  go_wp2
  go_ret
  exact ⟨by rw [HL.out];rfl,rfl⟩
 ·have HL:=Jh hl
  clear hl
  rcases h with h1|⟨h1,h2⟩|⟨h1,h2,h3⟩|⟨h1,h2,h3,h4⟩
  all_goals
   try (have d1:decide ((c.toNat:Int)≤126)=true:=dct (by omega))
   try (have d1:decide ((c.toNat:Int)≤126)=false:=dcf (by omega))
   go_enter Tryz.func152,Tryz.ntmps152
   go_wp2
   go_ret
   exact ⟨by rw [HL.out];rfl,rfl⟩
theorem idx_dig (k:Nat) (h:k<16) (w:World):(Instr.index 9 (.string ⟨#[48,49,50,51,52,53,54,55,56,57,97,98,99,100,101,102]⟩) (.int .u8 (k:Int))).run Tryz.prog w=.ok (.int .u8 ((dig16 k).toNat:Int)) w:=by
 have:k=0∨k=1∨k=2∨k=3∨k=4∨k=5∨k=6∨k=7∨k=8∨k=9∨k=10∨k=11∨k=12∨k=13∨k=14∨k=15:=by omega
 clear h
 rcases this with rfl|rfl|rfl|rfl|rfl|rfl|rfl|rfl|rfl|rfl|rfl|rfl|rfl|rfl|rfl|rfl<;>(show _=_;first|kernel_rfl|rfl)
theorem idx_hi (c:UInt8) (w:World):(Instr.index 9 (.string ⟨#[48,49,50,51,52,53,54,55,56,57,97,98,99,100,101,102]⟩) (.int .u8 ((c.toNat:Int)/16))).run Tryz.prog w=.ok (.int .u8 ((dig16 (c.toNat/16)).toNat:Int)) w:=by
 have:=UInt8.toNat_lt c
 exact idx_dig (c.toNat/16) (by omega) w
theorem idx_lo (c:UInt8) (w:World):(Instr.index 9 (.string ⟨#[48,49,50,51,52,53,54,55,56,57,97,98,99,100,101,102]⟩) (.int .u8 ((c.toNat:Int)%16))).run Tryz.prog w=.ok (.int .u8 ((dig16 (c.toNat%16)).toNat:Int)) w:=idx_dig (c.toNat%16) (by omega) w
theorem plain_ne {c:UInt8} (h:plainB c=true):c≠34∧c≠92:=by
 unfold plainB at h
 rw [decide_eq_true_iff] at h
 exact ⟨fun e=>by subst e;exact h.2.2.1 rfl,fun e=>by subst e;exact h.2.2.2 rfl⟩
theorem dig16_inj:∀ a,a<16→∀ b,b<16→dig16 a=dig16 b→a=b:=by decide +kernel
theorem escB_ne (c:UInt8):escB c≠[]:=by unfold escB;split<;>simp
theorem escB_pre {c d:UInt8} {r t:List UInt8} (h:escB c++r=escB d++t):c=d∧r=t:=by
 cases hc:plainB c<;>cases hd:plainB d
 ·rw [escB_hex hc,escB_hex hd] at h
  simp only [List.cons_append,List.nil_append,List.cons.injEq,true_and] at h
  obtain ⟨h1,h2,h3⟩:=h
  have b1:=UInt8.toNat_lt c
  have b2:=UInt8.toNat_lt d
  have e1:=dig16_inj _ (by omega) _ (by omega) h1
  have e2:=dig16_inj _ (by omega) _ (by omega) h2
  exact ⟨UInt8.toNat_inj.1 (by omega),h3⟩
 ·rw [escB_hex hc,escB_plain hd] at h
  simp only [List.cons_append,List.nil_append,List.cons.injEq] at h
  exact absurd h.1.symm (plain_ne hd).2
 ·rw [escB_plain hc,escB_hex hd] at h
  simp only [List.cons_append,List.nil_append,List.cons.injEq] at h
  exact absurd h.1 (plain_ne hc).2
 ·rw [escB_plain hc,escB_plain hd] at h
  simp only [List.cons_append,List.nil_append,List.cons.injEq] at h
  exact h
theorem escB_34 {c:UInt8} {r t:List UInt8} (h:escB c++r=34::t):False:=by
 cases hc:plainB c
 ·rw [escB_hex hc] at h
  simp only [List.cons_append,List.cons.injEq] at h
  exact absurd h.1 (by decide)
 ·rw [escB_plain hc] at h
  simp only [List.cons_append,List.cons.injEq] at h
  exact (plain_ne hc).1 h.1
theorem valT_cons (c:UInt8) (v:List UInt8):valT (c::v)=escB c++valT v:=by simp [valT]
theorem valT_pre:∀ {u v r t:List UInt8},valT u++34::r=valT v++34::t→u=v∧r=t
 | [],[],r,t,h=>by simpa [valT] using h
 | [],d::v,r,t,h=>by
  rw [valT_cons,List.append_assoc] at h
  exact absurd h.symm (fun h'=>escB_34 h')
 | c::u,[],r,t,h=>by
  rw [valT_cons,List.append_assoc] at h
  exact absurd h (fun h'=>escB_34 h')
 | c::u,d::v,r,t,h=>by
  rw [valT_cons,valT_cons,List.append_assoc,List.append_assoc] at h
  obtain ⟨rfl,h2⟩:=escB_pre h
  obtain ⟨rfl,h3⟩:=valT_pre h2
  exact ⟨rfl,h3⟩
def tailT (l:List Lab):List UInt8:=l.flatMap fun x=>44::labT x
def bodyT:List Lab→List UInt8
 | []=>[]
 | x::r=>labT x++tailT r
theorem tailT_app (l m:List Lab):tailT (l++m)=tailT l++tailT m:=by simp [tailT]
theorem bodyT_app {l:List Lab} (m:List Lab) (h:l≠[]):bodyT (l++m)=bodyT l++tailT m:=by
 cases l with
 | nil=>exact absurd rfl h
 | cons x r=>simp [bodyT,tailT_app]
theorem textK_body (l:List Lab):∀ k,k≤l.length→textK l k=bodyT (l.take k):=by
 intro k
 induction k with
 | zero=>intro _;rfl
 | succ k ih =>
  intro hk
  rw [textK_succ,ih (by omega)]
  have e:l.take (k+1)=l.take k++[labAt l k]:=by
   rw [List.take_succ_eq_append_getElem (by omega),labAt_eq (by omega)]
  rw [e]
  rcases Nat.eq_zero_or_pos k with h0|h0
  ·subst h0
   simp [bodyT,tailT]
  ·rw [if_pos h0,bodyT_app _ (by intro h;rw [List.take_eq_nil_iff] at h;rcases h with h|h;omega;subst h;simp at hk)]
   simp [tailT]
theorem textB_body (l:List Lab):textB l=123::(bodyT l++[125]):=by
 unfold textB
 rw [textK_body l _ (Nat.le_refl _),List.take_length]
theorem name_no61 {s:ByteArray} (h:nameB s=true):∀ c∈s.data.toList,c≠61∧letterB c=true:=by
 have h':nameP s:=of_decide_eq_true h
 intro c hc
 obtain ⟨i,hi,rfl⟩:=List.getElem_of_mem hc
 have hi':i<s.size:=by rw [Array.length_toList] at hi;exact hi
 have h1:=h'.2.2 i hi'
 have e:at8 s i=s.data.toList[i]:=by simp [at8,List.getD,List.getElem?_eq_getElem hi]
 rw [e] at h1
 refine ⟨fun e61=>?_,okC_letter h1⟩
 rw [e61] at h1
 unfold okC at h1
 simp at h1
theorem name_pre:∀ {a b r t:List UInt8},(∀ c∈a,c≠61)→(∀ c∈b,c≠61)→a++61::r=b++61::t→a=b∧r=t
 | [],[],r,t,_,_,h=>by simpa using h
 | [],d::b,r,t,_,hb,h=>by
  simp only [List.nil_append,List.cons_append,List.cons.injEq] at h
  exact absurd h.1.symm (hb d (by simp))
 | c::a,[],r,t,ha,_,h=>by
  simp only [List.nil_append,List.cons_append,List.cons.injEq] at h
  exact absurd h.1 (ha c (by simp))
 | c::a,d::b,r,t,ha,hb,h=>by
  simp only [List.cons_append,List.cons.injEq] at h
  obtain ⟨rfl,h2⟩:=h
  obtain ⟨rfl,h3⟩:=name_pre (fun c hc=>ha c (by simp [hc])) (fun c hc=>hb c (by simp [hc])) h2
  exact ⟨rfl,h3⟩
theorem right_name {l:List Lab} (h:rightB l=true):∀ x∈l,nameB x.1=true:=by
 have h':rightP l:=of_decide_eq_true h
 intro x hx
 obtain ⟨i,hi,rfl⟩:=List.getElem_of_mem hx
 have:=(h'.2 i hi).1
 rwa [← labAt_eq hi] at this
theorem bytes_ext {a b:ByteArray} (h:a.data.toList=b.data.toList):a=b:=ByteArray.ext (Array.toList_inj.1 h)
theorem labT_ne (x:Lab):labT x≠[]:=by unfold labT;simp
def restT (out r:List Lab):List UInt8:=if out=[] then bodyT r else tailT r
theorem body_rest (out r:List Lab):bodyT (out++r)=bodyT out++restT out r:=by
 unfold restT
 split
 ·rename_i h;subst h;rfl
 ·rename_i h;exact bodyT_app r h
theorem restT_nil {out r:List Lab} (h:restT out r=[]):r=[]:=by
 cases r with
 | nil=>rfl
 | cons x r =>
  exfalso
  have h3:=List.length_pos_iff.2 (labT_ne x)
  have:=congrArg List.length h
  unfold restT at this
  split at this
  ·simp only [bodyT,List.length_append,List.length_nil] at this;omega
  ·simp [tailT] at this
theorem body_snoc (out:List Lab) (x:Lab):bodyT (out++[x])=bodyT out++((if out=[] then [] else [44])++labT x):=by
 rw [body_rest]
 congr 1
 unfold restT
 split
 ·simp [bodyT,tailT]
 ·simp [tailT]
theorem rest_cons (out:List Lab) (x:Lab) (r:List Lab):restT out (x::r)=(if out=[] then [] else [44])++(labT x++tailT r):=by
 unfold restT
 split
 ·simp [bodyT]
 ·simp [tailT]

theorem conv_new (w:World) (m:List UInt8) (cs:Array Value) (n c:Nat) (hcs:cs.toList=m.map byteV) (hn:m.length=n) :
  (convert 33 9 (.slice (some ⟨w.heap.size,0,none⟩) n c)).run Tryz.prog (w.alloc (.cells cs 5))=.ok (.string ⟨m.toArray⟩) (w.alloc (.cells cs 5)):=by
 have hb:Bytes (w.alloc (.cells cs 5)) (w.alloc (.cells cs 5)).heap.size (some ⟨w.heap.size,0,none⟩) n m:=⟨hn,blk_reads (Blk.new w _ cs) hcs hn⟩
 exact hb.conv Tryz.prog c 33 5 9 Tryz.underlying33 Tryz.underlying5 Tryz.underlying9
theorem conv_drew (w:World) (m:List UInt8) (cs:Array Value) (n c:Nat) (hcs:cs.toList=m.map byteV) (hn:m.length=n) :
  (convert 33 9 (.slice (some ⟨w.heap.size,0,none⟩) n c)).run Tryz.prog (w.alloc (.cells cs 5)).drew=.ok (.string ⟨m.toArray⟩) (w.alloc (.cells cs 5)).drew:=by
 have hb:Bytes (w.alloc (.cells cs 5)).drew (w.alloc (.cells cs 5)).heap.size (some ⟨w.heap.size,0,none⟩) n m:=Bytes.drew ⟨hn,blk_reads (Blk.new w _ cs) hcs hn⟩
 exact hb.conv Tryz.prog c 33 5 9 Tryz.underlying33 Tryz.underlying5 Tryz.underlying9
set_option maxRecDepth 100000 in
set_option maxHeartbeats 1600000 in
theorem byteR_calls (c:UInt8) (w:World):Calls Tryz.prog 135 #[.int .u8 (c.toNat:Int)] w fun e w'=>e=.returned (.string ⟨(escB c).toArray⟩)∧Below w.heap.size w w':=by
 have hcase:(plainB c=true∧32≤(c.toNat:Int)∧(c.toNat:Int)≤126∧((c.toNat:Int) != 34)=true∧((c.toNat:Int) != 92)=true) ∨
   (plainB c=false∧((c.toNat:Int)<32∨(32≤(c.toNat:Int)∧126<(c.toNat:Int))∨(32≤(c.toNat:Int)∧(c.toNat:Int)≤126∧((c.toNat:Int) != 34)=false)∨(32≤(c.toNat:Int)∧(c.toNat:Int)≤126∧((c.toNat:Int) != 34)=true∧((c.toNat:Int) != 92)=false))):=by
  have e1:((c.toNat:Int) != 34)=true↔c.toNat≠34:=by rw [bne_iff_ne];omega
  have e2:((c.toNat:Int) != 34)=false↔c.toNat=34:=by rw [bne_eq_false_iff_eq];omega
  have e3:((c.toNat:Int) != 92)=true↔c.toNat≠92:=by rw [bne_iff_ne];omega
  have e4:((c.toNat:Int) != 92)=false↔c.toNat=92:=by rw [bne_eq_false_iff_eq];omega
  unfold plainB
  rw [decide_eq_true_iff,decide_eq_false_iff_not,e1,e2,e3,e4]
  omega
 have hc8:=UInt8.toNat_lt c
 rcases hcase with ⟨hl,h1,h2,h3,h4⟩|⟨hl,h⟩
 ·have HL:=Jh (escB_plain hl)
  clear hl
  have hcv:=conv_new w [c] #[.int .u8 (c.toNat:Int)] 1 1 rfl rfl
  go_enter Tryz.func135,Tryz.ntmps135
  go_wp2
  go_ret
  exact ⟨by rw [HL.out];rfl,(Below.refl _ _).alloc (Nat.le_refl _) _⟩
 ·have HL:=Jh (escB_hex hl)
  clear hl
  have hcv:=conv_drew w [92,dig16 (c.toNat/16),dig16 (c.toNat%16)] #[.int .u8 92,.int .u8 ((dig16 (c.toNat/16)).toNat:Int),.int .u8 ((dig16 (c.toNat%16)).toNat:Int)] 3 3 rfl rfl
  have Hcv:=Jh hcv
  have ih:=idx_hi c
  have il:=idx_lo c
  have e1:IntKind.u8.wrap ((c.toNat:Int).tdiv 16)=(c.toNat:Int)/16:=IntWalk.u8_quo _ _ (by omega)
  have e2:(c.toNat:Int).tmod 16=(c.toNat:Int)%16:=IntWalk.rem_in _ _ (by omega)
  have e4:IntKind.u8.wrap ((c.toNat:Int)/16)=(c.toNat:Int)/16:=IntWalk.u8_in _ (by omega)
  have e3:IntKind.u8.wrap ((c.toNat:Int)%16)=(c.toNat:Int)%16:=IntWalk.u8_in _ (by omega)
  clear hcv
  rcases h with h1|⟨h1,h2⟩|⟨h1,h2,h3⟩|⟨h1,h2,h3,h4⟩
  all_goals
   go_enter Tryz.func135,Tryz.ntmps135
   go_wp2_with fail
   go_still_tail 8,(by kernel_rfl)
   clear ih il e1 e2 e3 e4
   have hcv:=Hcv.out
   go_wp2
   go_ret
   exact ⟨by rw [HL.out];rfl,(below_drewN_ (Below.refl _ _) 1).alloc (Nat.le_refl _) _⟩
theorem app_str (a b:List UInt8):(⟨a.toArray⟩:ByteArray)++⟨b.toArray⟩=⟨(a++b).toArray⟩:=by
 apply ByteArray.ext
 apply Array.toList_inj.1
 simp
theorem mk_size (a:List UInt8):(⟨a.toArray⟩:ByteArray).size=a.length:=by simp [ByteArray.size]
theorem drop8 {s:ByteArray} {q:Nat} (h:q<s.size):s.data.toList.drop q=at8 s q::s.data.toList.drop (q+1):=by
 have hl:q<s.data.toList.length:=by rw [Array.length_toList];exact h
 rw [List.drop_eq_getElem_cons hl]
 simp [at8,List.getD,List.getElem?_eq_getElem hl]
def hexV (c:UInt8):Int:=if 48≤c.toNat∧c.toNat≤57 then (c.toNat:Int)-48 else if 97≤c.toNat∧c.toNat≤102 then (c.toNat:Int)-87 else -1
theorem hexV_dig:∀ k,k<16→hexV (dig16 k)=(k:Int):=by decide +kernel
theorem hexV_lt (c:UInt8):hexV c<16:=by unfold hexV;split;omega;split<;>omega
theorem dig_hexV (c:UInt8) (h:0≤hexV c):dig16 (hexV c).toNat=c:=by
 have:∀ n,n<256→0≤hexV (UInt8.ofNat n)→dig16 (hexV (UInt8.ofNat n)).toNat=UInt8.ofNat n:=by decide +kernel
 have h2:=this c.toNat (UInt8.toNat_lt c)
 rw [UInt8.ofNat_toNat] at h2
 exact h2 h
set_option maxRecDepth 100000 in
theorem digit_calls (c:UInt8) (w:World):Calls Tryz.prog 151 #[.int .u8 (c.toNat:Int)] w fun e w'=>e=.returned (.int .i64 (hexV c))∧w=w':=by
 have hc8:=UInt8.toNat_lt c
 have hcase:(48≤(c.toNat:Int)∧(c.toNat:Int)≤57∧hexV c=(c.toNat:Int)-48)∨((c.toNat:Int)<48∧hexV c=-1)∨(48≤(c.toNat:Int)∧57<(c.toNat:Int)∧(c.toNat:Int)<97∧hexV c=-1)∨(48≤(c.toNat:Int)∧57<(c.toNat:Int)∧97≤(c.toNat:Int)∧(c.toNat:Int)≤102∧hexV c=(c.toNat:Int)-87)∨(48≤(c.toNat:Int)∧57<(c.toNat:Int)∧97≤(c.toNat:Int)∧102<(c.toNat:Int)∧hexV c=-1):=by
  unfold hexV
  split
  ·omega
  ·split<;>omega
 rcases hcase with ⟨h1,h2,h⟩|⟨h1,h⟩|⟨h1,h2,h3,h⟩|⟨h1,h2,h3,h4,h⟩|⟨h1,h2,h3,h4,h⟩
 all_goals
  have HX:=Jh h
  clear h
  try (have d57:decide ((c.toNat:Int)≤57)=true:=dct (by omega))
  try (have e57:decide ((c.toNat:Int)≤57)=false:=dcf (by omega))
  try (have d102:decide ((c.toNat:Int)≤102)=true:=dct (by omega))
  try (have e102:decide ((c.toNat:Int)≤102)=false:=dcf (by omega))
  try (have w1:IntKind.u8.wrap ((c.toNat:Int)-48)=(c.toNat:Int)-48:=by rw [IntKind.wrap_u8];omega)
  try (have w2:IntKind.u8.wrap ((c.toNat:Int)-97)=(c.toNat:Int)-97:=by rw [IntKind.wrap_u8];omega)
  go_enter Tryz.func151,Tryz.ntmps151
  go_wp2
  go_ret
  exact ⟨by rw [HX.out];first|rfl|exact congrArg (fun z=>Ending.returned (.int .i64 z)) (show (c.toNat:Int)-97+10=(c.toNat:Int)-87 by omega),rfl⟩
def NoRd (X:List UInt8):Prop:=∀ c r,X≠escB c++r
theorem noRd_nil:NoRd []:=fun c r h=>by
 have h2:=escB_ne c
 have:=congrArg List.length h
 have h3:=List.length_pos_iff.2 h2
 simp at this
 omega
theorem noRd_bad {c:UInt8} {X:List UInt8} (h1:plainB c=false) (h2:c≠92):NoRd (c::X):=fun d r h=>by
 cases hd:plainB d
 ·rw [escB_hex hd] at h;simp only [List.cons_append,List.cons.injEq] at h;exact h2 h.1
 ·rw [escB_plain hd] at h;simp only [List.cons_append,List.cons.injEq] at h;rw [h.1,hd] at h1;cases h1
theorem esc92 {d:UInt8} {X r:List UInt8} (h:92::X=escB d++r):plainB d=false∧X=dig16 (d.toNat/16)::dig16 (d.toNat%16)::r:=by
 cases hd:plainB d
 ·rw [escB_hex hd] at h;simp only [List.cons_append,List.cons.injEq,List.nil_append,true_and] at h;exact ⟨rfl,h⟩
 ·rw [escB_plain hd] at h;simp only [List.cons_append,List.cons.injEq] at h;exact absurd h.1.symm (plain_ne hd).2
theorem noRd_short {X:List UInt8} (h:X.length<2):NoRd (92::X):=fun d r he=>by
 have:=congrArg List.length (esc92 he).2
 simp at this
 omega
theorem noRd_d1 {a:UInt8} {X:List UInt8} (h:hexV a<0):NoRd (92::a::X):=fun d r he=>by
 have h2:=(esc92 he).2
 simp only [List.cons.injEq] at h2
 have:=hexV_dig (d.toNat/16) (by have:=UInt8.toNat_lt d;omega)
 rw [← h2.1] at this
 omega
theorem noRd_d2 {a b:UInt8} {X:List UInt8} (h:hexV b<0):NoRd (92::a::b::X):=fun d r he=>by
 have h2:=(esc92 he).2
 simp only [List.cons.injEq] at h2
 have:=hexV_dig (d.toNat%16) (by omega)
 rw [← h2.2.1] at this
 omega
def hexB (a b:UInt8):UInt8:=UInt8.ofNat (16*(hexV a).toNat+(hexV b).toNat)
theorem hexB_nat {a b:UInt8} (h1:0≤hexV a) (h2:0≤hexV b):((hexB a b).toNat:Int)=16*hexV a+hexV b:=by
 have b1:=hexV_lt a
 have b2:=hexV_lt b
 unfold hexB
 rw [UInt8.toNat_ofNat']
 omega
theorem noRd_plain {a b:UInt8} {X:List UInt8} (h1:0≤hexV a) (h2:0≤hexV b) (h:plainB (hexB a b)=true):NoRd (92::a::b::X):=fun d r he=>by
 obtain ⟨h3,h4⟩:=esc92 he
 simp only [List.cons.injEq] at h4
 have e1:=hexV_dig (d.toNat/16) (by have:=UInt8.toNat_lt d;omega)
 have e2:=hexV_dig (d.toNat%16) (by omega)
 rw [← h4.1] at e1
 rw [← h4.2.1] at e2
 have e3:=hexB_nat h1 h2
 have:hexB a b=d:=UInt8.toNat_inj.1 (by omega)
 rw [this,h3] at h
 cases h
theorem rd_hex {a b:UInt8} {X:List UInt8} (h1:0≤hexV a) (h2:0≤hexV b) (h:plainB (hexB a b)=false):92::a::b::X=escB (hexB a b)++X:=by
 have e3:=hexB_nat h1 h2
 have b1:=hexV_lt a
 have b2:=hexV_lt b
 rw [escB_hex h,show (hexB a b).toNat/16=(hexV a).toNat by omega,show (hexB a b).toNat%16=(hexV b).toNat by omega,dig_hexV a h1,dig_hexV b h2]
 rfl
theorem escB_len13 (c:UInt8):(escB c).length=if plainB c=true then 1 else 3:=by unfold escB;split<;>rfl
theorem noVal {X:List UInt8} (h:NoRd X) (h34:∀ r,X≠34::r) (v r:List UInt8):X≠valT v++34::r:=by
 cases v with
 | nil=>exact h34 r
 | cons d v=>rw [valT_cons,List.append_assoc];exact h d _
theorem valT_ext:∀ {u v X r:List UInt8},valT u++X=valT v++34::r→∃ v',v=u++v'∧X=valT v'++34::r
 | [],v,X,r,h=>⟨v,rfl,by simpa [valT] using h⟩
 | c::u,[],X,r,h=>by
  rw [valT_cons,List.append_assoc] at h
  exact absurd h (fun h'=>escB_34 h')
 | c::u,d::v,X,r,h=>by
  rw [valT_cons,valT_cons,List.append_assoc,List.append_assoc] at h
  obtain ⟨rfl,h2⟩:=escB_pre h
  obtain ⟨v',rfl,h3⟩:=valT_ext h2
  exact ⟨v',rfl,h3⟩
def Upto (S:List UInt8) (p:Nat) (u:List UInt8) (q:Nat):Prop:=S.drop p=valT u++S.drop q∧q=p+(valT u).length
theorem Upto.start (S:List UInt8) (p:Nat):Upto S p [] p:=⟨rfl,rfl⟩
theorem Upto.next {S:List UInt8} {p q:Nat} {u:List UInt8} (h:Upto S p u q) {c:UInt8} {m:Nat} (hm:(escB c).length=m) (he:S.drop q=escB c++S.drop (q+m)):Upto S p (u++[c]) (q+m):=by
 refine ⟨?_,?_⟩
 ·rw [valT_snoc,h.1,he,List.append_assoc]
 ·rw [valT_snoc,List.length_append,hm,h.2];omega
theorem Upto.none {S:List UInt8} {p q:Nat} {u:List UInt8} (h:Upto S p u q) (hn:NoRd (S.drop q)) (h34:∀ r,S.drop q≠34::r):∀ v r,S.drop p≠valT v++34::r:=fun v r he=>by
 rw [h.1] at he
 obtain ⟨v',_,h2⟩:=valT_ext he
 exact noVal hn h34 v' r h2
theorem Upto.done {S:List UInt8} {p q:Nat} {u:List UInt8} (h:Upto S p u q) (he:S.drop q=34::S.drop (q+1)):S.drop p=valT u++34::S.drop (q+1):=by rw [h.1,he]
theorem valT_ge:∀ v:List UInt8,v.length≤(valT v).length
 | []=>Nat.zero_le _
 | c::v=>by
  have h1:=valT_ge v
  have h2:=List.length_pos_iff.2 (escB_ne c)
  rw [valT_cons,List.length_append,List.length_cons]
  omega
def ValRet (S:List UInt8) (p:Nat) (e:Ending):Prop :=
 (∃ v:List UInt8,e=.returned (.tuple #[.string ⟨v.toArray⟩,.int .i64 ((p+(valT v).length+1:Nat):Int),.bool true])∧S.drop p=valT v++34::S.drop (p+(valT v).length+1)∧p+(valT v).length<S.length) ∨
 (∃ (x:ByteArray) (k:Int),e=.returned (.tuple #[.string x,.int .i64 k,.bool false])∧∀ v r,S.drop p≠valT v++34::r)
set_option maxRecDepth 100000 in
set_option maxHeartbeats 3200000 in
theorem value_calls (s:ByteArray) (p:Nat) (w:World) (hp:p≤s.size) (hs:s.size≤1000000) :
  Calls Tryz.prog 139 #[.string s,.int .i64 (p:Int)] w fun e w'=>ValRet s.data.toList p e∧Below w.heap.size w w':=by
 have HSZ:Hid (s.data.toList.length=s.size):=Jh (by rw [Array.length_toList];rfl)
 have HD:=Jh (fun (c:UInt8) (W:World)=>digit_calls c W)
 have HP:=Jh (fun (c:UInt8) (W:World)=>plain_calls c W)
 go_enter Tryz.func139,Tryz.ntmps139
 go_wp2
 go_loopw [1,7] (fun a o wr=>∃ (q:Nat) (u:List UInt8),q≤s.size∧a=.int .i64 (q:Int)∧u.length≤2000000∧Hid (Upto s.data.toList p u q)∧wr.ownsRow w.heap.size 5 1 o u.length (u.map byteV)∧Below w.heap.size w wr) (fun a _ _=>s.size-(intOf a).toNat)
 case atStart=>exact ⟨p,[],hp,rfl,by simp,Jh (Upto.start _ _),World.ownsRow_nil _ _ _ _,Below.refl _ _⟩
 case round =>
  obtain ⟨q,u,hq,rfl,hul,HU,hown,hbel⟩:=hrel
  have hsz:=hbel.size
  by_cases hlt:q<s.size
  ·have Hdr:=Jh (drop8 hlt)
   have Hc:=Jh (at8_eq hlt)
   by_cases h34:((s[q].toNat:Int) == 34)=true
   ·have HE:Hid (s.data.toList.drop p=valT u++34::s.data.toList.drop (q+1)):=Jh (by
     refine HU.out.done ?_
     rw [Hdr.out,← Hc.out]
     congr 1
     rw [beq_iff_eq] at h34
     exact UInt8.toNat_inj.1 (by show s[q].toNat=34;omega))
    obtain ⟨A,co,rfl,-,-,hrd⟩:=own_slice hown
    have hconv:=fun W (hW:Below wr.heap.size wr W)=>(Bytes.of (hrd.below hW)).conv Tryz.prog co 33 5 9 Tryz.underlying33 Tryz.underlying5 Tryz.underlying9
    have hcv:=hconv wr (Below.refl _ _)
    have hnf:((s[q].toNat:Int) != 34)=false:=by simpa using h34
    clear h34 hconv
    go_wp2
    go_ret3
    refine ⟨.inl ⟨u,?_,?_,?_⟩,hbel⟩
    ·have e:((p+(valT u).length+1:Nat):Int)=(q:Int)+1:=by have:=HU.out.2;omega
     rw [e]
     rfl
    ·rw [← HU.out.2];exact HE.out
    ·rw [← HU.out.2,HSZ.out];exact hlt
   ·have hnf:((s[q].toNat:Int) != 34)=true:=by simpa using h34
    have Hh34:Hid (∀ r,s.data.toList.drop q≠34::r):=Jh (fun r hr=>by
     rw [Hdr.out,← Hc.out] at hr
     simp only [List.cons.injEq] at hr
     rw [hr.1] at h34
     exact h34 rfl)
    have hul:u.length≤s.size:=by have h1:=HU.out.2;have h2:=valT_ge u;omega
    clear h34
    by_cases h92:((s[q].toNat:Int) == 92)=true
    ·have hc92:at8 s q=92:=by
      rw [← Hc.out]
      rw [beq_iff_eq] at h92
      exact UInt8.toNat_inj.1 (by show s[q].toNat=92;omega)
     rw [hc92] at Hdr
     have Hno:Hid (NoRd (s.data.toList.drop q)→∀ v r,s.data.toList.drop p≠valT v++34::r):=Jh fun h=>HU.out.none h Hh34.out
     clear hc92
     by_cases h2:s.size≤q+2
     ·have HN:=Jh (Hno.out (by rw [Hdr.out];exact noRd_short (by rw [List.length_drop,HSZ.out];omega)))
      have i1:(s.size:Int)≤(q:Int)+1+1:=by omega
      clear h2
      go_wp2
      go_ret3
      exact ⟨.inr ⟨_,_,rfl,HN.out⟩,hbel⟩
     ·have i1:(q:Int)+1+1<(s.size:Int):=by omega
      have j1:q+1<s.size:=by omega
      have j2:q+2<s.size:=by omega
      have Hd1:=Jh (drop8 j1)
      have Hd2:=Jh (drop8 j2)
      have Hc1:=Jh (at8_eq j1)
      have Hc2:=Jh (at8_eq j2)
      have Hfull:Hid (s.data.toList.drop q=92::s[q+1]::s[q+2]::s.data.toList.drop (q+3)):=Jh (by rw [Hdr.out,Hd1.out,Hd2.out,Hc1.out,Hc2.out])
      have e1:((q:Int)+1).toNat=q+1:=by omega
      have e2:((q:Int)+1+1).toNat=q+2:=by omega
      have l1:hexV s[q+1]<16:=hexV_lt _
      have l2:hexV s[q+2]<16:=hexV_lt _
      have HD1:=Jh (fun W=>HD.out s[q+1] W)
      have HD2:=Jh (fun W=>HD.out s[q+2] W)
      clear h2 Hd1 Hd2 Hc1 Hc2
      by_cases g1:hexV s[q+1]<0
      ·have HN:=Jh (Hno.out (by rw [Hfull.out];exact noRd_d1 g1))
       go_wp2_with fail
       refine (HD1.out _).mono ?_
       rintro e w1 ⟨rfl,rfl⟩
       go_wp2
       go_ret3
       exact ⟨.inr ⟨_,_,rfl,HN.out⟩,hbel⟩
      ·have g1':0≤hexV s[q+1]:=by omega
       by_cases g2:hexV s[q+2]<0
       ·have HN:=Jh (Hno.out (by rw [Hfull.out];exact noRd_d2 g2))
        have d2:=dct g2
        go_wp2_with fail
        refine (HD1.out _).mono ?_
        rintro e w1 ⟨rfl,rfl⟩
        go_wp2_with fail
        refine (HD2.out _).mono ?_
        rintro e w1 ⟨rfl,rfl⟩
        go_wp2
        go_ret3
        exact ⟨.inr ⟨_,_,rfl,HN.out⟩,hbel⟩
       ·have g2':0≤hexV s[q+2]:=by omega
        have d2:=dcf g2
        have Hnp:=Jh (fun (h:plainB (hexB s[q+1] s[q+2])=true)=>Hno.out (by rw [Hfull.out];exact noRd_plain g1' g2' h))
        have Hup:=Jh (fun (h:plainB (hexB s[q+1] s[q+2])=false)=>HU.out.next (c:=hexB s[q+1] s[q+2]) (m:=3) (by rw [escB_len13,h];rfl) (by rw [Hfull.out];exact rd_hex g1' g2' h))
        have hxn:=hexB_nat g1' g2'
        have k1:IntKind.i64.wrap (16*hexV s[q+1])=16*hexV s[q+1]:=IntWalk.i64_in _ (by omega)
        have k2:IntKind.i64.wrap (16*hexV s[q+1]+hexV s[q+2])=16*hexV s[q+1]+hexV s[q+2]:=IntWalk.i64_in _ (by omega)
        have k3:IntKind.u8.wrap (16*hexV s[q+1]+hexV s[q+2])=((hexB s[q+1] s[q+2]).toNat:Int):=by
         have:=UInt8.toNat_lt (hexB s[q+1] s[q+2])
         rw [IntKind.wrap_u8]
         omega
        have k4:IntKind.i64.wrap ((q:Int)+1+1)=(q:Int)+1+1:=IntWalk.i64_in _ (by omega)
        have HPc:=Jh (fun W=>HP.out (hexB s[q+1] s[q+2]) W)
        clear hxn
        generalize hexB s[q+1] s[q+2]=x at *
        generalize hpx:plainB x=px at *
        go_wp2_with fail
        refine (HD1.out _).mono ?_
        rintro e w1 ⟨rfl,rfl⟩
        go_wp2_with fail
        refine (HD2.out _).mono ?_
        rintro e w1 ⟨rfl,rfl⟩
        go_wp2_with fail
        go_quiet ((go_at_call 151;exact quiet_left (HD.out _ _)))
        clear k1 k2 k3 k4 hpx
        cases px
        ·have Hup2:=Jh (Hup.out rfl)
         clear Hup Hnp
         go_wp2_with fail
         refine (HPc.out _).mono ?_
         rintro e w1 ⟨rfl,rfl⟩
         go_wp2_with (at_builtin;go_must (refine wpList_push _ rfl (.tmp 65) (.tmp 67) _ rfl w.heap.size 5 _ 1 Tryz.underlying33 Tryz.infoU8b rfl _ _ _ _ _ rfl rfl (own_drewN hown _) rfl (by unfold maxLen;omega) (by omega) hsz ?_))
         intro v' w1 hown' hbel' _ _
         have hown2:=own_snoc hown' rfl
         clear hown' hown
         go_wp2
         go_roundw
         case rel=>exact ⟨q+3,u++[x],by omega,by go_num,by simp;omega,Hup2,hown2,(below_drewN_ hbel _).trans (hbel'.mono (Nat.le_refl _))⟩
         case measure=>simp [intOf];omega
        ·have HN:=Jh (Hnp.out rfl)
         clear Hup Hnp
         go_wp2_with fail
         refine (HPc.out _).mono ?_
         rintro e w1 ⟨rfl,rfl⟩
         go_wp2
         go_ret3
         exact ⟨.inr ⟨_,_,rfl,HN.out⟩,below_drewN_ hbel _⟩
    ·have hn92:at8 s q≠92:=fun e=>by
      rw [← Hc.out] at e
      rw [e] at h92
      exact h92 rfl
     have h92':((s[q].toNat:Int) == 92)=false:=by simpa using h92
     have Hup:=Jh (fun (h:plainB s[q]=true)=>HU.out.next (c:=s[q]) (m:=1) (by rw [escB_len13,h];rfl) (by rw [Hdr.out,← Hc.out,escB_plain h];rfl))
     have Hnp:=Jh (fun (h:plainB s[q]=false)=>HU.out.none (by rw [Hdr.out,← Hc.out];exact noRd_bad h (by rw [Hc.out];exact hn92)) Hh34.out)
     have HPc:=Jh (fun W=>HP.out s[q] W)
     clear h92 hn92
     generalize hpx:plainB s[q]=px at *
     clear hpx
     cases px
     ·have HN:=Jh (Hnp.out rfl)
      clear Hup Hnp
      go_wp2_with fail
      refine (HPc.out _).mono ?_
      rintro e w1 ⟨rfl,rfl⟩
      go_wp2
      go_ret3
      exact ⟨.inr ⟨_,_,rfl,HN.out⟩,hbel⟩
     ·have Hup2:=Jh (Hup.out rfl)
      clear Hup Hnp
      go_wp2_with fail
      refine (HPc.out _).mono ?_
      rintro e w1 ⟨rfl,rfl⟩
      go_wp2_with (at_builtin;go_must (refine wpList_push _ rfl (.tmp 65) (.tmp 67) _ rfl w.heap.size 5 _ 1 Tryz.underlying33 Tryz.infoU8b rfl _ _ _ _ _ rfl rfl hown rfl (by unfold maxLen;omega) (by omega) hsz ?_))
      intro v' w1 hown' hbel' _ _
      have hown2:=own_snoc hown' rfl
      clear hown' hown
      go_wp2
      go_roundw
      case rel=>exact ⟨q+1,u++[s[q]],by omega,by go_num,by simp;omega,Hup2,hown2,hbel.trans hbel'⟩
      case measure=>simp [intOf];omega
  ·obtain rfl:q=s.size:=by omega
   have HN:Hid (∀ v r,s.data.toList.drop p≠valT v++34::r):=Jh (by
    have e:s.data.toList.drop s.size=[]:=List.drop_eq_nil_of_le (by rw [HSZ.out];omega)
    exact HU.out.none (by rw [e];exact noRd_nil) (fun r h=>by rw [e] at h;cases h))
   obtain ⟨A,co,rfl,-,-,hrd⟩:=own_slice hown
   have hcv:=(Bytes.of hrd).conv Tryz.prog co 33 5 9 Tryz.underlying33 Tryz.underlying5 Tryz.underlying9
   go_wp2
   go_ret3
   exact ⟨.inr ⟨_,_,rfl,HN.out⟩,hbel⟩
def ParP (S:List UInt8) (l:List Lab):Prop:=rightB l=true∧textB l=S
def NoSet (T:List UInt8):Prop:=∀ l,rightB l=true→bodyT l≠T
theorem noSet_par {T S:List UInt8} (h:NoSet T) (hS:S=123::(T++[125])) (l:List Lab):¬ ParP S l:=fun ⟨h1,h2⟩=>by
 rw [textB_body,hS] at h2
 simp only [List.cons.injEq,true_and] at h2
 exact h l h1 (List.append_cancel_right h2)
theorem par_of {T S:List UInt8} (hS:S=123::(T++[125])) {l:List Lab} (h:rightB l=true) (hb:bodyT l=T):ParP S l:=⟨h,by rw [textB_body,hS,hb]⟩
theorem text_ends (l:List Lab):∃ T,textB l=123::(T++[125]):=⟨_,textB_body l⟩
def sepT (out:List Lab):List UInt8:=if out=[] then [] else [44]
structure St (T:List UInt8) (out:List Lab) (q:Nat):Prop where
 le:q≤T.length
 sound:T.take q=bodyT out
 comp:∀ l,rightB l=true→bodyT l=T→∃ r,l=out++r
structure St2 (T:List UInt8) (out:List Lab) (q:Nat):Prop where
 le:q≤T.length
 sound:T.take q=bodyT out++sepT out
 comp:∀ l,rightB l=true→bodyT l=T→∃ x r,l=out++x::r∧T.drop q=labT x++tailT r
theorem St.start (T:List UInt8):St T [] 0:=⟨Nat.zero_le _,rfl,fun l _ _=>⟨l,rfl⟩⟩
theorem St.rest {T:List UInt8} {out:List Lab} {q:Nat} (h:St T out q) {r:List Lab} (hb:bodyT (out++r)=T):T.drop q=restT out r:=by
 rw [body_rest] at hb
 have h1:T.take q++T.drop q=bodyT out++restT out r:=by rw [List.take_append_drop,hb]
 rw [h.sound] at h1
 exact List.append_cancel_left h1
theorem St.more0 {T:List UInt8} {q:Nat} (h:St T [] q) (hq:q<T.length):St2 T [] q where
 le:=h.le
 sound:=by rw [h.sound];rfl
 comp l hl hb:=by
  have h1:=h.rest (r:=l) hb
  cases l with
  | nil =>
   have:=congrArg List.length h1
   simp [restT,bodyT] at this
   omega
  | cons x r=>exact ⟨x,r,rfl,h1⟩
theorem St.comma {T:List UInt8} {out:List Lab} {q:Nat} (h:St T out q) (ho:out≠[]) {X:List UInt8} (hq:T.drop q=44::X):St2 T out (q+1) where
 le:=by
  have:=congrArg List.length hq
  simp at this
  have:=h.le
  omega
 sound:=by
  have hlt:q<T.length:=by
   have:=congrArg List.length hq
   simp at this
   omega
  rw [List.take_succ_eq_append_getElem hlt,h.sound]
  unfold sepT
  rw [if_neg ho]
  rw [List.drop_eq_getElem_cons hlt] at hq
  injection hq with h1 h2
  rw [h1]
 comp l hl hb:=by
  obtain ⟨r,rfl⟩:=h.comp l hl hb
  have h1:=h.rest hb
  rw [hq] at h1
  cases r with
  | nil=>simp [restT,ho,tailT] at h1
  | cons x r =>
   rw [rest_cons,if_neg ho] at h1
   refine ⟨x,r,rfl,?_⟩
   have h2:T.drop (q+1)=X:=by
    have:=congrArg (List.drop 1) hq
    simpa [List.drop_drop] using this
   rw [h2]
   simpa using h1
theorem St.nocomma {T:List UInt8} {out:List Lab} {q:Nat} (h:St T out q) (ho:out≠[]) {c:UInt8} {X:List UInt8} (hq:T.drop q=c::X) (hc:c≠44):NoSet T:=fun l hl hb=>by
 obtain ⟨r,rfl⟩:=h.comp l hl hb
 have h1:=h.rest hb
 rw [hq] at h1
 cases r with
 | nil=>simp [restT,ho,tailT] at h1
 | cons x r =>
  rw [rest_cons,if_neg ho] at h1
  simp only [List.cons_append,List.cons.injEq] at h1
  exact hc h1.1
theorem St2.many {T:List UInt8} {out:List Lab} {q:Nat} (h:St2 T out q) (ho:4<out.length):NoSet T:=fun l hl hb=>by
 obtain ⟨x,r,rfl,_⟩:=h.comp l hl hb
 have h1:rightP (out++x::r):=of_decide_eq_true hl
 have:=h1.1
 simp at this
 omega
theorem labT_split (x:Lab):labT x=x.1.data.toList++61::34::(valT x.2.data.toList++[34]):=by simp [labT]
theorem St2.noeq {T:List UInt8} {out:List Lab} {q:Nat} (h:St2 T out q) (hn:∀ a r,T.drop q≠a++61::34::r):NoSet T:=fun l hl hb=>by
 obtain ⟨x,r,rfl,h1⟩:=h.comp l hl hb
 rw [labT_split,List.append_assoc] at h1
 exact hn _ _ h1
theorem St2.name {T:List UInt8} {out:List Lab} {q:Nat} (h:St2 T out q) {i:Nat} {X:List UInt8} (hi:T.drop q=(T.drop q).take i++61::34::X) (hno:∀ a r,T.drop q=a++61::34::r→i≤a.length) (l:List Lab) (hl:rightB l=true) (hb:bodyT l=T) :
  ∃ x r,l=out++x::r∧x.1.data.toList=(T.drop q).take i∧X=valT x.2.data.toList++34::tailT r:=by
 obtain ⟨x,r,rfl,h1⟩:=h.comp l hl hb
 have hnm:nameB x.1=true:=right_name hl x (by simp)
 rw [labT_split,List.append_assoc] at h1
 have hle:=hno _ _ h1
 have h2:=h1
 rw [hi] at h2
 have hlen:((T.drop q).take i).length≤i:=List.length_take_le _ _
 have hno61:∀ c∈(T.drop q).take i,c≠61:=fun c hc=>by
  have hp:(T.drop q).take i <+: x.1.data.toList:=by
   refine List.prefix_of_prefix_length_le (List.take_prefix _ _) (l₃:=T.drop q) ?_ (by omega)
   rw [h1]
   exact List.prefix_append _ _
  exact (name_no61 hnm c (hp.subset hc)).1
 have h3:(T.drop q).take i++61::(34::X)=x.1.data.toList++61::(34::(valT x.2.data.toList++[34]++tailT r)):=by
  rw [h2];simp
 obtain ⟨e1,e2⟩:=name_pre hno61 (fun c hc=>(name_no61 hnm c hc).1) h3
 simp only [List.cons.injEq,true_and] at e2
 exact ⟨x,r,rfl,e1.symm,by rw [e2];simp⟩
theorem St2.noval {T:List UInt8} {out:List Lab} {q:Nat} (h:St2 T out q) {i:Nat} {X:List UInt8} (hi:T.drop q=(T.drop q).take i++61::34::X) (hno:∀ a r,T.drop q=a++61::34::r→i≤a.length) (hv:∀ v r,X≠valT v++34::r):NoSet T:=fun l hl hb=>by
 obtain ⟨x,r,_,_,h2⟩:=h.name hi hno l hl hb
 exact hv _ _ h2
theorem St2.label {T:List UInt8} {out:List Lab} {q:Nat} (h:St2 T out q) {i:Nat} (hi:T.drop q=(T.drop q).take i++61::34::T.drop (q+i+2)) (hno:∀ a r,T.drop q=a++61::34::r→i≤a.length) (hil:((T.drop q).take i).length=i)
  {n v:ByteArray} (hn:n.data.toList=(T.drop q).take i) (hv:T.drop (q+i+2)=valT v.data.toList++34::T.drop (q+i+2+(valT v.data.toList).length+1)):St T (out++[(n,v)]) (q+i+2+(valT v.data.toList).length+1) where
 le:=by
  have h1:=congrArg List.length hv
  have h2:=congrArg List.length hi
  simp at h1 h2
  have:=h.le
  omega
 sound:=by
  have e:T=bodyT (out++[(n,v)])++T.drop (q+i+2+(valT v.data.toList).length+1):=by
   conv=>lhs;rw [← List.take_append_drop q T,h.sound,hi,hv]
   rw [body_snoc,labT_split]
   simp only [hn,sepT,List.append_assoc,List.cons_append,List.nil_append]
  have hl:(bodyT (out++[(n,v)])).length=q+i+2+(valT v.data.toList).length+1:=by
   have h0:=congrArg List.length h.sound
   have h1:=congrArg List.length hv
   have h2:=congrArg List.length hi
   have h3:=congrArg List.length e
   have h5:=h.le
   rw [List.length_append,List.length_cons,List.length_cons,hil] at h2
   rw [List.length_append,List.length_cons] at h1
   rw [List.length_append] at h3
   simp only [List.length_drop] at h1 h2 h3
   omega
  conv=>lhs;rw [e]
  rw [← hl]
  simp
 comp l hl hb:=by
  obtain ⟨x,r,rfl,h1,h2⟩:=h.name hi hno l hl hb
  rw [hv] at h2
  obtain ⟨e1,_⟩:=valT_pre h2
  refine ⟨r,?_⟩
  have:x=(n,v):=Prod.ext (bytes_ext (by rw [h1,hn])) (bytes_ext e1.symm)
  rw [this]
  simp
theorem St.fin {T:List UInt8} {out:List Lab} (h:St T out T.length):bodyT out=T:=by rw [← h.sound,List.take_length]
theorem St.finno {T:List UInt8} {out:List Lab} (h:St T out T.length) (hr:rightB out=false):NoSet T:=fun l hl hb=>by
 obtain ⟨r,rfl⟩:=h.comp l hl hb
 have h1:=h.rest hb
 rw [List.drop_length] at h1
 have:=restT_nil h1.symm
 subst this
 rw [List.append_nil,hr] at hl
 cases hl
theorem index_eq (X:List UInt8):(Lib.index X [61,34]=-1∧∀ a r,X≠a++61::34::r)∨(∃ i:Nat,Lib.index X [61,34]=(i:Int)∧i+2≤X.length∧X=X.take i++61::34::X.drop (i+2)∧∀ a r,X=a++61::34::r→i≤a.length):=by
 have hocc:∀ a r,X=a++61::34::r→a.length≤X.length∧Lib.occAt X [61,34] a.length=true:=fun a r e=>by
  subst e
  refine ⟨by simp,?_⟩
  unfold Lib.occAt
  simp
 rcases Lib.index_spec X [61,34] with ⟨h1,h2⟩|⟨i,h1,h2,h3,h4⟩
 ·exact .inl ⟨h1,fun a r e=>by
   obtain ⟨k1,k2⟩:=hocc a r e
   rw [h2 _ k1] at k2
   cases k2⟩
 ·unfold Lib.occAt at h3
  have hp:[61,34] <+: X.drop i:=by
   simpa using h3
  obtain ⟨t,ht⟩:=hp
  have hd:X.drop (i+2)=t:=by
   have:=congrArg (List.drop 2) ht
   rw [List.drop_drop] at this
   simpa using this.symm
  refine .inr ⟨i,h1,?_,?_,fun a r e=>?_⟩
  ·have:=congrArg List.length ht
   simp at this
   omega
  ·rw [hd]
   conv=>lhs;rw [← List.take_append_drop i X,← ht]
   simp
  ·rcases Nat.lt_or_ge a.length i with h5|h5
   ·have:=(hocc a r e).2
    rw [h4 _ h5] at this
    cases this
   ·exact h5
theorem Tryz.infoLab:(Tryz.prog.info? 172).map (fun i=>(i.zero,i.size,i.bytes))=some (some (.agg #[.string ⟨#[]⟩,.string ⟨#[]⟩]),2,32):=by kernel_rfl
theorem bytes_eqd (a b:ByteArray):(a.toList == b.toList)=decide (a=b):=by
 rw [ByteArray.toList_eq,ByteArray.toList_eq]
 by_cases h:a=b
 ·simp [h]
 ·have h2:a.data.toList≠b.data.toList:=fun e=>h (ByteArray.ext (Array.toList_inj.1 e))
  rw [dcf h]
  simpa using h2
def fewP (l:List Lab):Prop:=l.length≤30∧∀ i,i<l.length→(labAt l i).1.size+(labAt l i).2.size≤200
instance (l:List Lab):Decidable (fewP l):=by unfold fewP;infer_instance
section
variable {w w':World} {B B':Nat} {A:Option Addr} {l:List ByteArray}
end
def hasB (by_:List ByteArray) (x:ByteArray):Bool:=by_.any fun y=>decide (y=x)
def ParRet (w:World) (S:List UInt8) (y n:Value) (e:Ending) (w':World):Prop :=
 (∃ l A c,e=.returned (.tuple #[.slice A l.length c,y])∧ParP S l∧Labs w' w'.heap.size A l∧Below w.heap.size w w')∨(e=.returned (.tuple #[.slice none 0 0,n])∧(∀ l,¬ ParP S l)∧Below w.heap.size w w')
theorem not_par_short {S:List UInt8} (h:S.length<2) (l:List Lab):¬ ParP S l:=fun ⟨_,h2⟩=>by
 obtain ⟨T,hT⟩:=text_ends l
 rw [hT] at h2
 rw [← h2] at h
 simp at h
 omega
theorem not_par_head {S X:List UInt8} {c:UInt8} (h:S=c::X) (hc:c≠123) (l:List Lab):¬ ParP S l:=fun ⟨_,h2⟩=>by
 obtain ⟨T,hT⟩:=text_ends l
 rw [hT,h] at h2
 injection h2 with h3 h4
 exact hc h3.symm
theorem not_par_last {S:List UInt8} {k:Nat} {c:UInt8} (hk:S.length=k+1) (h:S[k]?=some c) (hc:c≠125) (l:List Lab):¬ ParP S l:=fun ⟨_,h2⟩=>by
 obtain ⟨T,hT⟩:=text_ends l
 rw [hT] at h2
 rw [← h2] at h hk
 have e:k=T.length+1:=by simp at hk;omega
 rw [e] at h
 simp at h
 exact hc h.symm
theorem at8_get {s:ByteArray} {i:Nat} (h:i<s.size):s.data.toList[i]?=some (at8 s i):=by
 have hl:i<s.data.toList.length:=by rw [Array.length_toList];exact h
 simp [at8,List.getD,List.getElem?_eq_getElem hl]
theorem ext_list (s:ByteArray) (a b:Nat):(s.extract a b).data.toList=(s.data.toList.drop a).take (b-a):=by
 rw [ByteArray.data_extract,Array.toList_extract,List.extract_eq_take_drop]
theorem mid_list {s:ByteArray} (h2:2≤s.size) (h0:at8 s 0=123) (h1:at8 s (s.size-1)=125):s.data.toList=123::((s.extract 1 (s.size-1)).data.toList++[125]):=by
 have hl:s.data.toList.length=s.size:=by rw [Array.length_toList];rfl
 have e0:=drop8 (s:=s) (q:=0) (by omega)
 have e1:=drop8 (s:=s) (q:=s.size-1) (by omega)
 have e3:s.data.toList.drop (s.size-1+1)=[]:=List.drop_eq_nil_of_le (by omega)
 rw [e3,h1] at e1
 rw [h0] at e0
 rw [ext_list]
 simp only [List.drop_zero,Nat.zero_add] at e0
 have e2:(s.data.toList.drop 1).take (s.size-1-1)++[125]=s.data.toList.drop 1:=by
  conv=>rhs;rw [← List.take_append_drop (s.size-1-1) (s.data.toList.drop 1)]
  rw [List.drop_drop,show 1+(s.size-1-1)=s.size-1 by omega,e1]
 rw [e2]
 exact e0
end Go.Proofs.YtibnehaibgbliaaGreat.Lb
