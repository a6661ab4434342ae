/- Laws for the row's walk. -/
import Derived.Test.YtibnehaibgbliaaGreatR03
import Derived.Deep.Cut
import Derived.Test.YtibnehaibgbliaaGreatR04
set_option linter.unusedVariables false
set_option linter.unusedSimpArgs false
open Go.Lib renaming hid → Jh
namespace Go.Proofs.YtibnehaibgbliaaGreat.Mf
open Go.RowKit Go.Proofs.YtibnehaibgbliaaGreat
abbrev mkV (x:Mk):Value:=.agg #[.int .i64 x.maker,.int .i64 x.seq]
abbrev owV (x:Ow):Value:=.agg #[.int .i64 x.agent,.int .i64 x.life,.int .i64 x.count]
theorem keyOf_calls (x:En) (w:World):Calls Tryz.prog 90 #[enV x] w fun e w'=>e=.returned (.string x.key)∧Below w.heap.size w w':=by
 go_enter Tryz.func90,Tryz.ntmps90
 go_wp2
 go_ret
 exact ⟨rfl,(Below.refl _ _).alloc (Nat.le_refl _) _⟩
theorem makerOf_calls (x:Mk) (w:World):Calls Tryz.prog 93 #[mkV x] w fun e w'=>e=.returned (.int .i64 x.maker)∧Below w.heap.size w w':=by
 go_enter Tryz.func93,Tryz.ntmps93
 go_wp2
 go_ret
 exact ⟨rfl,(Below.refl _ _).alloc (Nat.le_refl _) _⟩
theorem agentOf_calls (x:Ow) (w:World):Calls Tryz.prog 96 #[owV x] w fun e w'=>e=.returned (.int .i64 x.agent)∧Below w.heap.size w w':=by
 go_enter Tryz.func96,Tryz.ntmps96
 go_wp2
 go_ret
 exact ⟨rfl,(Below.refl _ _).alloc (Nat.le_refl _) _⟩
theorem placeOf_calls (x:Mk) (w:World) (h:mkB x=true):Calls Tryz.prog 123 #[mkV x] w fun e w'=>e=.returned (.int .i64 (x.maker*1099511627776+x.seq))∧Below w.heap.size w w':=by
 unfold mkB at h
 simp only [Bool.and_eq_true,decide_eq_true_eq,numB_iff] at h
 obtain ⟨⟨h1,h2⟩,h3,h4⟩:=h
 have e1:IntKind.i64.wrap (x.maker*1099511627776)=x.maker*1099511627776:=IntWalk.i64_in _ (by omega)
 have e2:IntKind.i64.wrap (x.maker*1099511627776+x.seq)=x.maker*1099511627776+x.seq:=IntWalk.i64_in _ (by omega)
 clear h1 h2 h3 h4
 go_enter Tryz.func123,Tryz.ntmps123
 go_wp2
 go_ret
 exact ⟨rfl,(Below.refl _ _).alloc (Nat.le_refl _) _⟩
theorem ris_step {α:Type} [Inhabited α] {r:α→Bool} {lt:α→α→Bool} {l:List α} {k:Nat} (h:∀ i,i<k→r (gt l i)=true∧(0<i→lt (gt l (i-1)) (gt l i)=true)) (h1:r (gt l k)=true) (h2:0<k→lt (gt l (k-1)) (gt l k)=true) :
  ∀ i,i<k+1→r (gt l i)=true∧(0<i→lt (gt l (i-1)) (gt l i)=true):=by
 intro i hi
 rcases Nat.lt_or_ge i k with h3|h3
 ·exact h i h3
 ·obtain rfl:i=k:=by omega
  exact ⟨h1,h2⟩
theorem ris_yes {α:Type} [Inhabited α] {r:α→Bool} {lt:α→α→Bool} {l:List α} (h:∀ i,i<l.length→r (gt l i)=true∧(0<i→lt (gt l (i-1)) (gt l i)=true)):risB r lt l=true:=dct h
theorem ris_no1 {α:Type} [Inhabited α] {r:α→Bool} {lt:α→α→Bool} {l:List α} {k:Nat} (hk:k<l.length) (h:r (gt l k)=false):risB r lt l=false:=dcf fun h'=>by have:=(h' k hk).1;rw [h] at this;cases this
theorem ris_no2 {α:Type} [Inhabited α] {r:α→Bool} {lt:α→α→Bool} {l:List α} {k:Nat} (hk:k<l.length) (hp:0<k) (h:lt (gt l (k-1)) (gt l k)=false):risB r lt l=false:=dcf fun h'=>by have:=(h' k hk).2 hp;rw [h] at this;cases this
set_option maxRecDepth 100000 in
set_option maxHeartbeats 3200000 in
theorem risingM_calls (w:World) {B c:Nat} {A:Option Addr} {l:List Mk} (h:Reads w B 2 A l.length (l.flatMap Mk.cs)) (hB:B≤w.heap.size) (hn:l.length≤17592186044416) :
  Calls Tryz.prog 91 #[.slice A l.length c,.func (.func 92) #[] #[],.func (.func 93) #[] #[]] w fun e w'=>e=.returned (.bool (risB mkB ltM l))∧Below w.heap.size w w':=by
 have HR:=Jh fun x (_:x∈l) W (_:Below w.heap.size w W)=>mark_calls x W
 have HO:=Jh fun x W (_:mkB x=true)=>makerOf_calls x W
 have HC:Hid (∀ x y:Mk,decide (y.maker≤x.maker)=!ltM x y):=Jh fun x y=>by unfold ltM;by_cases h:x.maker<y.maker<;>simp [h]<;>omega
 have eg1:∀ args w,(callFunc 92 args).run Tryz.prog w=.ok (.enter 92 args) w:=enters_of Tryz.func92 (by kernel_rfl) rfl
 have eg2:∀ args w,(callFunc 93 args).run Tryz.prog w=.ok (.enter 93 args) w:=enters_of Tryz.func93 (by kernel_rfl) rfl
 go_enter Tryz.func91,Tryz.ntmps91
 go_wp2
 go_loopw [11] (fun i wr=>∃ k:Nat,k≤l.length∧i=.int .i64 (k:Int)∧Hid (∀ i,i<k→mkB (gt l i)=true∧(0<i→ltM (gt l (i-1)) (gt l i)=true))∧Below w.heap.size w wr) (fun i _=>l.length-(intOf i).toNat)
 case atStart=>exact ⟨0,Nat.zero_le _,rfl,Jh fun i hi=>absurd hi (by omega),Below.refl _ _⟩
 case round =>
  obtain ⟨k,hk,rfl,hall,hbel⟩:=hrel
  by_cases hlt:k<l.length
  ·have hsz:=hbel.size
   have hr:=h.below (hbel.mono hB)
   obtain ⟨b,off,rfl,hbB⟩:=row_addr hr (by omega)
   have HG:Hid (∀ W,Below wr.heap.size wr W→∀ i,i<l.length→W.cell? ⟨b,off+i*2,none⟩=some (.int .i64 (gt l i).maker)∧W.cell? ⟨b,off+i*2+1,none⟩=some (.int .i64 (gt l i).seq)):=Jh fun W hW i hi=>⟨row_cell mcs_len (hr.below (hW.mono (by omega))) hi (j:=0) rfl,row_cell mcs_len (hr.below (hW.mono (by omega))) hi (j:=1) rfl⟩
   obtain ⟨p0,p1⟩:=HG.out wr (Below.refl _ _) k hlt
   have HX:=Jh (World.size_alloc wr (.cells #[.int .i64 (gt l k).maker,.int .i64 (gt l k).seq] 90))
   have HB1:=Jh ((Below.refl wr.heap.size wr).alloc (Nat.le_refl _) (.cells #[.int .i64 (gt l k).maker,.int .i64 (gt l k).seq] 90))
   have HR2:=Jh fun W (hW:Below (wr.heap.size+1) (wr.alloc (.cells #[.int .i64 (gt l k).maker,.int .i64 (gt l k).seq] 90)) W)=>HR.out (gt l k) (gt_mem hlt) W (hbel.trans ((HB1.out.trans (hW.mono (by omega))).mono hsz))
   have HBL:Hid (∀ W,Below (wr.heap.size+1) (wr.alloc (.cells #[.int .i64 (gt l k).maker,.int .i64 (gt l k).seq] 90)) W→W.cell? ⟨wr.heap.size,0,none⟩=some (.int .i64 (gt l k).maker)∧W.cell? ⟨wr.heap.size,1,none⟩=some (.int .i64 (gt l k).seq)):=Jh fun W hW=>by
    have hb:=(Blk.new wr 90 #[.int .i64 (gt l k).maker,.int .i64 (gt l k).seq]).below hW (by omega)
    exact ⟨hb.cell 0,hb.cell 1⟩
   have Hno1:=Jh (fun hh=>ris_no1 (r:=mkB) (lt:=ltM) hlt hh)
   have Hno2:=Jh (fun hp hh=>ris_no2 (r:=mkB) (lt:=ltM) hlt hp hh)
   have Hst:=Jh (fun h1 h2=>ris_step (r:=mkB) (lt:=ltM) hall.out h1 h2)
   have Hpr:=Jh (fun (hp:0<k)=>(hall.out (k-1) (by omega)).1)
   have HO2:=Jh fun W h=>HO.out (gt l k) W h
   have HO3:=Jh fun W h=>HO.out (gt l (k-1)) W h
   have HC2:=Jh (HC.out (gt l (k-1)) (gt l k))
   have HP:=Jh fun W hW (hp:0<k)=>HG.out W hW (k-1) (by omega)
   clear hr HG hall h HR HO HC
   generalize gt l k=x at *
   generalize gt l (k-1)=y at *
   have n1:IntKind.i64.wrap ((k:Int)-1)=(k:Int)-1:=IntWalk.i64_in _ (by omega)
   cases hx:mkB x
   ·have HV:=Jh (Hno1.out hx)
    rw [hx] at HR2
    clear hx Hno1 Hno2 Hst Hpr HO2 HO3 HC2 HP
    go_wp2_with fail
    refine wp_region_T 99 (fun w'=>w'.cell? ⟨wr.heap.size,0,none⟩=some (.int .i64 x.maker)∧w'.cell? ⟨wr.heap.size,1,none⟩=some (.int .i64 x.seq)) (by kernel_rfl) (HBL.out _ (below_drewN_ (Below.refl _ _) 1)) (fun hHeld=>?_)
    apply tkT 0
    apply tkT 1
    refine wpAnyT_one (i:=2) (by kernel_rfl) rfl (fun K hK=>?_);go_simp
    refine (HR2.out _ (below_drewN_ (Below.refl _ _) 1)).mono ?_
    rintro e wa ⟨rfl,hba⟩
    have hea0:Below (wr.heap.size+1) (wr.alloc (.cells #[.int .i64 x.maker,.int .i64 x.seq] 90)) wa:=(below_drewN_ (Below.refl _ _) 1).trans (hba.mono (by simp [World.drew]))
    have hea:Below wr.heap.size wr wa:=HB1.out.trans (hea0.mono (by omega))
    have hHa:=HBL.out _ hea0
    refine hK.out _ _ (fun _=>hHa) ?_
    clear hK K hHeld hba
    apply tkT 3
    apply tkT 4
    apply tuT 5
    apply tuT 6
    apply tuT 7
    apply tuT 8
    apply tuT 9
    apply tuT 10
    apply tuT 11
    apply tuT 12
    apply tuT 13
    apply tuT 14
    apply tuT 15
    apply tuT 16
    apply tuT 17
    apply tuT 18
    apply tuT 19
    apply tkT 20
    refine wpAnyT_done (by kernel_rfl) ?_ _
    go_wp2
    go_ret
    exact ⟨by rw [HV.out];rfl,hbel.trans (hea.mono hsz)⟩
   rw [hx] at HR2
   have HOx:=Jh fun W=>HO2.out W hx
   by_cases hp:0<k
   ·have dk:decide ((0:Int)<(k:Int))=true:=dct (by omega)
    have k0:(0:Int)≤(k:Int)-1:=by omega
    have k9:(k:Int)-1<(l.length:Int):=by omega
    have k1:(1:Int)≤(k:Int):=by omega
    have k2:¬ (k:Int)<1:=by omega
    have e1:((k:Int)-1).toNat=k-1:=by omega
    have HOy:=Jh fun W=>HO3.out W (Hpr.out hp)
    have HP2:Hid (∀ W,Below (wr.heap.size+1) (wr.alloc (.cells #[.int .i64 x.maker,.int .i64 x.seq] 90)) W→(W.cell? ⟨wr.heap.size,0,none⟩=some (.int .i64 x.maker)∧W.cell? ⟨wr.heap.size,1,none⟩=some (.int .i64 x.seq))∧W.cell? ⟨b,off+(k-1)*2,none⟩=some (.int .i64 y.maker)∧W.cell? ⟨b,off+(k-1)*2+1,none⟩=some (.int .i64 y.seq)):=Jh fun W hW=>⟨HBL.out W hW,HP.out W (HB1.out.trans (hW.mono (by omega))) hp⟩
    cases hlt2:ltM y x
    ·have HV:=Jh (Hno2.out hp hlt2)
     have HC3:=Jh HC2.out
     rw [hlt2] at HC3
     clear hx Hno1 Hno2 Hst Hpr HO2 HO3 HC2 HP HBL hlt2
     go_wp2_with fail
     refine wp_region_T 99 (fun w'=>(w'.cell? ⟨wr.heap.size,0,none⟩=some (.int .i64 x.maker)∧w'.cell? ⟨wr.heap.size,1,none⟩=some (.int .i64 x.seq))∧w'.cell? ⟨b,off+(k-1)*2,none⟩=some (.int .i64 y.maker)∧w'.cell? ⟨b,off+(k-1)*2+1,none⟩=some (.int .i64 y.seq)) (by kernel_rfl) (HP2.out _ (below_drewN_ (Below.refl _ _) 1)) (fun hHeld=>?_)
     apply tkT 0
     apply tkT 1
     refine wpAnyT_one (i:=2) (by kernel_rfl) rfl (fun K hK=>?_);go_simp
     refine (HR2.out _ (below_drewN_ (Below.refl _ _) 1)).mono ?_
     rintro e wa ⟨rfl,hba⟩
     have hea0:Below (wr.heap.size+1) (wr.alloc (.cells #[.int .i64 x.maker,.int .i64 x.seq] 90)) wa:=(below_drewN_ (Below.refl _ _) 1).trans (hba.mono (by simp [World.drew]))
     have hHa:=HP2.out _ hea0
     refine hK.out _ _ (fun _=>hHa) ?_
     clear hK K hHeld hba
     apply tkT 3
     apply tkT 4
     apply tkT 5
     apply tkT 6
     apply tkT 7
     apply tkT 8
     apply tkT 9
     apply tkT 10
     apply tkT 11
     apply tkT (v:=.pointer (some ⟨b,off+(k-1)*2,none⟩)) 12
     apply tkT 13
     apply tkT 15
     apply tkT 16
     refine wpAnyT_one (i:=14) (by kernel_rfl) rfl (fun K hK=>?_);go_simp
     refine (HOy.out _).mono ?_
     rintro e wb ⟨rfl,hbb⟩
     have heb0:Below (wr.heap.size+1) (wr.alloc (.cells #[.int .i64 x.maker,.int .i64 x.seq] 90)) wb:=hea0.trans (hbb.mono (by have:=hea0.size;simp at this;omega))
     have hHb:=HP2.out _ heb0
     refine hK.out _ _ (fun _=>hHb) ?_
     clear hK K hbb hHa
     refine wpAnyT_one (i:=17) (by kernel_rfl) rfl (fun K hK=>?_);go_simp
     refine (HOx.out _).mono ?_
     rintro e wc ⟨rfl,hbc⟩
     have hec0:Below (wr.heap.size+1) (wr.alloc (.cells #[.int .i64 x.maker,.int .i64 x.seq] 90)) wc:=heb0.trans (hbc.mono (by have:=heb0.size;simp at this;omega))
     have hHc:=HP2.out _ hec0
     refine hK.out _ _ (fun _=>hHc) ?_
     clear hK K hbc hHb
     have hec:Below wr.heap.size wr wc:=HB1.out.trans (hec0.mono (by omega))
     have HC4:=HC3.out
     apply tkT 18
     apply tkT 19
     apply tkT 20
     refine wpAnyT_done (by kernel_rfl) ?_ _
     go_wp2
     go_ret
     exact ⟨by rw [HV.out];rfl,hbel.trans (hec.mono hsz)⟩
    ·have HS:=Jh (Hst.out hx (fun _=>hlt2))
     have HC3:=Jh HC2.out
     rw [hlt2] at HC3
     clear hx Hno1 Hno2 Hst Hpr HO2 HO3 HC2 HP HBL hlt2
     go_wp2_with fail
     refine wp_region_T 99 (fun w'=>(w'.cell? ⟨wr.heap.size,0,none⟩=some (.int .i64 x.maker)∧w'.cell? ⟨wr.heap.size,1,none⟩=some (.int .i64 x.seq))∧w'.cell? ⟨b,off+(k-1)*2,none⟩=some (.int .i64 y.maker)∧w'.cell? ⟨b,off+(k-1)*2+1,none⟩=some (.int .i64 y.seq)) (by kernel_rfl) (HP2.out _ (below_drewN_ (Below.refl _ _) 1)) (fun hHeld=>?_)
     apply tkT 0
     apply tkT 1
     refine wpAnyT_one (i:=2) (by kernel_rfl) rfl (fun K hK=>?_);go_simp
     refine (HR2.out _ (below_drewN_ (Below.refl _ _) 1)).mono ?_
     rintro e wa ⟨rfl,hba⟩
     have hea0:Below (wr.heap.size+1) (wr.alloc (.cells #[.int .i64 x.maker,.int .i64 x.seq] 90)) wa:=(below_drewN_ (Below.refl _ _) 1).trans (hba.mono (by simp [World.drew]))
     have hHa:=HP2.out _ hea0
     refine hK.out _ _ (fun _=>hHa) ?_
     clear hK K hHeld hba
     apply tkT 3
     apply tkT 4
     apply tkT 5
     apply tkT 6
     apply tkT 7
     apply tkT 8
     apply tkT 9
     apply tkT 10
     apply tkT 11
     apply tkT (v:=.pointer (some ⟨b,off+(k-1)*2,none⟩)) 12
     apply tkT 13
     apply tkT 15
     apply tkT 16
     refine wpAnyT_one (i:=14) (by kernel_rfl) rfl (fun K hK=>?_);go_simp
     refine (HOy.out _).mono ?_
     rintro e wb ⟨rfl,hbb⟩
     have heb0:Below (wr.heap.size+1) (wr.alloc (.cells #[.int .i64 x.maker,.int .i64 x.seq] 90)) wb:=hea0.trans (hbb.mono (by have:=hea0.size;simp at this;omega))
     have hHb:=HP2.out _ heb0
     refine hK.out _ _ (fun _=>hHb) ?_
     clear hK K hbb hHa
     refine wpAnyT_one (i:=17) (by kernel_rfl) rfl (fun K hK=>?_);go_simp
     refine (HOx.out _).mono ?_
     rintro e wc ⟨rfl,hbc⟩
     have hec0:Below (wr.heap.size+1) (wr.alloc (.cells #[.int .i64 x.maker,.int .i64 x.seq] 90)) wc:=heb0.trans (hbc.mono (by have:=heb0.size;simp at this;omega))
     have hHc:=HP2.out _ hec0
     refine hK.out _ _ (fun _=>hHc) ?_
     clear hK K hbc hHb
     have hec:Below wr.heap.size wr wc:=HB1.out.trans (hec0.mono (by omega))
     have HC4:=HC3.out
     apply tkT 18
     apply tkT 19
     apply tkT 20
     refine wpAnyT_done (by kernel_rfl) ?_ _
     go_wp2
     go_roundw
     case rel=>exact ⟨k+1,by omega,by go_num,HS,hbel.trans (hec.mono hsz)⟩
     case measure=>simp [intOf];omega
   ·have dk:decide ((0:Int)<(k:Int))=false:=dcf (by omega)
    have HS:=Jh (Hst.out hx (fun h=>absurd h hp))
    clear hx Hno1 Hno2 Hst Hpr HO2 HO3 HC2 HP
    go_wp2_with fail
    refine wp_region_T 99 (fun w'=>w'.cell? ⟨wr.heap.size,0,none⟩=some (.int .i64 x.maker)∧w'.cell? ⟨wr.heap.size,1,none⟩=some (.int .i64 x.seq)) (by kernel_rfl) (HBL.out _ (below_drewN_ (Below.refl _ _) 1)) (fun hHeld=>?_)
    apply tkT 0
    apply tkT 1
    refine wpAnyT_one (i:=2) (by kernel_rfl) rfl (fun K hK=>?_);go_simp
    refine (HR2.out _ (below_drewN_ (Below.refl _ _) 1)).mono ?_
    rintro e wa ⟨rfl,hba⟩
    have hea0:Below (wr.heap.size+1) (wr.alloc (.cells #[.int .i64 x.maker,.int .i64 x.seq] 90)) wa:=(below_drewN_ (Below.refl _ _) 1).trans (hba.mono (by simp [World.drew]))
    have hea:Below wr.heap.size wr wa:=HB1.out.trans (hea0.mono (by omega))
    have hHa:=HBL.out _ hea0
    refine hK.out _ _ (fun _=>hHa) ?_
    clear hK K hHeld hba
    apply tkT 3
    apply tkT 4
    apply tkT 5
    apply tkT 6
    apply tkT 7
    apply tuT 8
    apply tuT 9
    apply tuT 10
    apply tuT 11
    apply tuT 12
    apply tuT 13
    apply tuT 14
    apply tuT 15
    apply tuT 16
    apply tuT 17
    apply tuT 18
    apply tkT 19
    apply tkT 20
    refine wpAnyT_done (by kernel_rfl) ?_ _
    go_wp2
    go_roundw
    case rel=>exact ⟨k+1,by omega,by go_num,HS,hbel.trans (hea.mono hsz)⟩
    case measure=>simp [intOf];omega
  ·obtain rfl:k=l.length:=by omega
   have HV:=Jh (ris_yes hall.out)
   go_wp2
   go_ret
   exact ⟨by rw [HV.out];rfl,hbel⟩
set_option maxRecDepth 100000 in
set_option maxHeartbeats 3200000 in
theorem risingP_calls (w:World) {B c:Nat} {A:Option Addr} {l:List Mk} (h:Reads w B 2 A l.length (l.flatMap Mk.cs)) (hB:B≤w.heap.size) (hn:l.length≤17592186044416) :
  Calls Tryz.prog 91 #[.slice A l.length c,.func (.func 92) #[] #[],.func (.func 123) #[] #[]] w fun e w'=>e=.returned (.bool (risB mkB ltP l))∧Below w.heap.size w w':=by
 have HR:=Jh fun x (_:x∈l) W (_:Below w.heap.size w W)=>mark_calls x W
 have HO:=Jh fun x W (h:mkB x=true)=>placeOf_calls x W h
 have HC:Hid (∀ x y:Mk,decide (y.maker*1099511627776+y.seq≤x.maker*1099511627776+x.seq)=!ltP x y):=Jh fun x y=>by unfold ltP;by_cases h:x.maker*1099511627776+x.seq<y.maker*1099511627776+y.seq<;>simp [h]<;>omega
 have eg1:∀ args w,(callFunc 92 args).run Tryz.prog w=.ok (.enter 92 args) w:=enters_of Tryz.func92 (by kernel_rfl) rfl
 have eg2:∀ args w,(callFunc 123 args).run Tryz.prog w=.ok (.enter 123 args) w:=enters_of Tryz.func123 (by kernel_rfl) rfl
 go_enter Tryz.func91,Tryz.ntmps91
 go_wp2
 go_loopw [11] (fun i wr=>∃ k:Nat,k≤l.length∧i=.int .i64 (k:Int)∧Hid (∀ i,i<k→mkB (gt l i)=true∧(0<i→ltP (gt l (i-1)) (gt l i)=true))∧Below w.heap.size w wr) (fun i _=>l.length-(intOf i).toNat)
 case atStart=>exact ⟨0,Nat.zero_le _,rfl,Jh fun i hi=>absurd hi (by omega),Below.refl _ _⟩
 case round =>
  obtain ⟨k,hk,rfl,hall,hbel⟩:=hrel
  by_cases hlt:k<l.length
  ·have hsz:=hbel.size
   have hr:=h.below (hbel.mono hB)
   obtain ⟨b,off,rfl,hbB⟩:=row_addr hr (by omega)
   have HG:Hid (∀ W,Below wr.heap.size wr W→∀ i,i<l.length→W.cell? ⟨b,off+i*2,none⟩=some (.int .i64 (gt l i).maker)∧W.cell? ⟨b,off+i*2+1,none⟩=some (.int .i64 (gt l i).seq)):=Jh fun W hW i hi=>⟨row_cell mcs_len (hr.below (hW.mono (by omega))) hi (j:=0) rfl,row_cell mcs_len (hr.below (hW.mono (by omega))) hi (j:=1) rfl⟩
   obtain ⟨p0,p1⟩:=HG.out wr (Below.refl _ _) k hlt
   have HX:=Jh (World.size_alloc wr (.cells #[.int .i64 (gt l k).maker,.int .i64 (gt l k).seq] 90))
   have HB1:=Jh ((Below.refl wr.heap.size wr).alloc (Nat.le_refl _) (.cells #[.int .i64 (gt l k).maker,.int .i64 (gt l k).seq] 90))
   have HR2:=Jh fun W (hW:Below (wr.heap.size+1) (wr.alloc (.cells #[.int .i64 (gt l k).maker,.int .i64 (gt l k).seq] 90)) W)=>HR.out (gt l k) (gt_mem hlt) W (hbel.trans ((HB1.out.trans (hW.mono (by omega))).mono hsz))
   have HBL:Hid (∀ W,Below (wr.heap.size+1) (wr.alloc (.cells #[.int .i64 (gt l k).maker,.int .i64 (gt l k).seq] 90)) W→W.cell? ⟨wr.heap.size,0,none⟩=some (.int .i64 (gt l k).maker)∧W.cell? ⟨wr.heap.size,1,none⟩=some (.int .i64 (gt l k).seq)):=Jh fun W hW=>by
    have hb:=(Blk.new wr 90 #[.int .i64 (gt l k).maker,.int .i64 (gt l k).seq]).below hW (by omega)
    exact ⟨hb.cell 0,hb.cell 1⟩
   have Hno1:=Jh (fun hh=>ris_no1 (r:=mkB) (lt:=ltP) hlt hh)
   have Hno2:=Jh (fun hp hh=>ris_no2 (r:=mkB) (lt:=ltP) hlt hp hh)
   have Hst:=Jh (fun h1 h2=>ris_step (r:=mkB) (lt:=ltP) hall.out h1 h2)
   have Hpr:=Jh (fun (hp:0<k)=>(hall.out (k-1) (by omega)).1)
   have HO2:=Jh fun W h=>HO.out (gt l k) W h
   have HO3:=Jh fun W h=>HO.out (gt l (k-1)) W h
   have HC2:=Jh (HC.out (gt l (k-1)) (gt l k))
   have HP:=Jh fun W hW (hp:0<k)=>HG.out W hW (k-1) (by omega)
   clear hr HG hall h HR HO HC
   generalize gt l k=x at *
   generalize gt l (k-1)=y at *
   have n1:IntKind.i64.wrap ((k:Int)-1)=(k:Int)-1:=IntWalk.i64_in _ (by omega)
   cases hx:mkB x
   ·have HV:=Jh (Hno1.out hx)
    rw [hx] at HR2
    clear hx Hno1 Hno2 Hst Hpr HO2 HO3 HC2 HP
    go_wp2_with fail
    refine wp_region_T 99 (fun w'=>w'.cell? ⟨wr.heap.size,0,none⟩=some (.int .i64 x.maker)∧w'.cell? ⟨wr.heap.size,1,none⟩=some (.int .i64 x.seq)) (by kernel_rfl) (HBL.out _ (below_drewN_ (Below.refl _ _) 1)) (fun hHeld=>?_)
    apply tkT 0
    apply tkT 1
    refine wpAnyT_one (i:=2) (by kernel_rfl) rfl (fun K hK=>?_);go_simp
    refine (HR2.out _ (below_drewN_ (Below.refl _ _) 1)).mono ?_
    rintro e wa ⟨rfl,hba⟩
    have hea0:Below (wr.heap.size+1) (wr.alloc (.cells #[.int .i64 x.maker,.int .i64 x.seq] 90)) wa:=(below_drewN_ (Below.refl _ _) 1).trans (hba.mono (by simp [World.drew]))
    have hea:Below wr.heap.size wr wa:=HB1.out.trans (hea0.mono (by omega))
    have hHa:=HBL.out _ hea0
    refine hK.out _ _ (fun _=>hHa) ?_
    clear hK K hHeld hba
    apply tkT 3
    apply tkT 4
    apply tuT 5
    apply tuT 6
    apply tuT 7
    apply tuT 8
    apply tuT 9
    apply tuT 10
    apply tuT 11
    apply tuT 12
    apply tuT 13
    apply tuT 14
    apply tuT 15
    apply tuT 16
    apply tuT 17
    apply tuT 18
    apply tuT 19
    apply tkT 20
    refine wpAnyT_done (by kernel_rfl) ?_ _
    go_wp2
    go_ret
    exact ⟨by rw [HV.out];rfl,hbel.trans (hea.mono hsz)⟩
   rw [hx] at HR2
   have HOx:=Jh fun W=>HO2.out W hx
   by_cases hp:0<k
   ·have dk:decide ((0:Int)<(k:Int))=true:=dct (by omega)
    have k0:(0:Int)≤(k:Int)-1:=by omega
    have k9:(k:Int)-1<(l.length:Int):=by omega
    have k1:(1:Int)≤(k:Int):=by omega
    have k2:¬ (k:Int)<1:=by omega
    have e1:((k:Int)-1).toNat=k-1:=by omega
    have HOy:=Jh fun W=>HO3.out W (Hpr.out hp)
    have HP2:Hid (∀ W,Below (wr.heap.size+1) (wr.alloc (.cells #[.int .i64 x.maker,.int .i64 x.seq] 90)) W→(W.cell? ⟨wr.heap.size,0,none⟩=some (.int .i64 x.maker)∧W.cell? ⟨wr.heap.size,1,none⟩=some (.int .i64 x.seq))∧W.cell? ⟨b,off+(k-1)*2,none⟩=some (.int .i64 y.maker)∧W.cell? ⟨b,off+(k-1)*2+1,none⟩=some (.int .i64 y.seq)):=Jh fun W hW=>⟨HBL.out W hW,HP.out W (HB1.out.trans (hW.mono (by omega))) hp⟩
    cases hlt2:ltP y x
    ·have HV:=Jh (Hno2.out hp hlt2)
     have HC3:=Jh HC2.out
     rw [hlt2] at HC3
     clear hx Hno1 Hno2 Hst Hpr HO2 HO3 HC2 HP HBL hlt2
     go_wp2_with fail
     refine wp_region_T 99 (fun w'=>(w'.cell? ⟨wr.heap.size,0,none⟩=some (.int .i64 x.maker)∧w'.cell? ⟨wr.heap.size,1,none⟩=some (.int .i64 x.seq))∧w'.cell? ⟨b,off+(k-1)*2,none⟩=some (.int .i64 y.maker)∧w'.cell? ⟨b,off+(k-1)*2+1,none⟩=some (.int .i64 y.seq)) (by kernel_rfl) (HP2.out _ (below_drewN_ (Below.refl _ _) 1)) (fun hHeld=>?_)
     apply tkT 0
     apply tkT 1
     refine wpAnyT_one (i:=2) (by kernel_rfl) rfl (fun K hK=>?_);go_simp
     refine (HR2.out _ (below_drewN_ (Below.refl _ _) 1)).mono ?_
     rintro e wa ⟨rfl,hba⟩
     have hea0:Below (wr.heap.size+1) (wr.alloc (.cells #[.int .i64 x.maker,.int .i64 x.seq] 90)) wa:=(below_drewN_ (Below.refl _ _) 1).trans (hba.mono (by simp [World.drew]))
     have hHa:=HP2.out _ hea0
     refine hK.out _ _ (fun _=>hHa) ?_
     clear hK K hHeld hba
     apply tkT 3
     apply tkT 4
     apply tkT 5
     apply tkT 6
     apply tkT 7
     apply tkT 8
     apply tkT 9
     apply tkT 10
     apply tkT 11
     apply tkT (v:=.pointer (some ⟨b,off+(k-1)*2,none⟩)) 12
     apply tkT 13
     apply tkT 15
     apply tkT 16
     refine wpAnyT_one (i:=14) (by kernel_rfl) rfl (fun K hK=>?_);go_simp
     refine (HOy.out _).mono ?_
     rintro e wb ⟨rfl,hbb⟩
     have heb0:Below (wr.heap.size+1) (wr.alloc (.cells #[.int .i64 x.maker,.int .i64 x.seq] 90)) wb:=hea0.trans (hbb.mono (by have:=hea0.size;simp at this;omega))
     have hHb:=HP2.out _ heb0
     refine hK.out _ _ (fun _=>hHb) ?_
     clear hK K hbb hHa
     refine wpAnyT_one (i:=17) (by kernel_rfl) rfl (fun K hK=>?_);go_simp
     refine (HOx.out _).mono ?_
     rintro e wc ⟨rfl,hbc⟩
     have hec0:Below (wr.heap.size+1) (wr.alloc (.cells #[.int .i64 x.maker,.int .i64 x.seq] 90)) wc:=heb0.trans (hbc.mono (by have:=heb0.size;simp at this;omega))
     have hHc:=HP2.out _ hec0
     refine hK.out _ _ (fun _=>hHc) ?_
     clear hK K hbc hHb
     have hec:Below wr.heap.size wr wc:=HB1.out.trans (hec0.mono (by omega))
     have HC4:=HC3.out
     apply tkT 18
     apply tkT 19
     apply tkT 20
     refine wpAnyT_done (by kernel_rfl) ?_ _
     go_wp2
     go_ret
     exact ⟨by rw [HV.out];rfl,hbel.trans (hec.mono hsz)⟩
    ·have HS:=Jh (Hst.out hx (fun _=>hlt2))
     have HC3:=Jh HC2.out
     rw [hlt2] at HC3
     clear hx Hno1 Hno2 Hst Hpr HO2 HO3 HC2 HP HBL hlt2
     go_wp2_with fail
     refine wp_region_T 99 (fun w'=>(w'.cell? ⟨wr.heap.size,0,none⟩=some (.int .i64 x.maker)∧w'.cell? ⟨wr.heap.size,1,none⟩=some (.int .i64 x.seq))∧w'.cell? ⟨b,off+(k-1)*2,none⟩=some (.int .i64 y.maker)∧w'.cell? ⟨b,off+(k-1)*2+1,none⟩=some (.int .i64 y.seq)) (by kernel_rfl) (HP2.out _ (below_drewN_ (Below.refl _ _) 1)) (fun hHeld=>?_)
     apply tkT 0
     apply tkT 1
     refine wpAnyT_one (i:=2) (by kernel_rfl) rfl (fun K hK=>?_);go_simp
     refine (HR2.out _ (below_drewN_ (Below.refl _ _) 1)).mono ?_
     rintro e wa ⟨rfl,hba⟩
     have hea0:Below (wr.heap.size+1) (wr.alloc (.cells #[.int .i64 x.maker,.int .i64 x.seq] 90)) wa:=(below_drewN_ (Below.refl _ _) 1).trans (hba.mono (by simp [World.drew]))
     have hHa:=HP2.out _ hea0
     refine hK.out _ _ (fun _=>hHa) ?_
     clear hK K hHeld hba
     apply tkT 3
     apply tkT 4
     apply tkT 5
     apply tkT 6
     apply tkT 7
     apply tkT 8
     apply tkT 9
     apply tkT 10
     apply tkT 11
     apply tkT (v:=.pointer (some ⟨b,off+(k-1)*2,none⟩)) 12
     apply tkT 13
     apply tkT 15
     apply tkT 16
     refine wpAnyT_one (i:=14) (by kernel_rfl) rfl (fun K hK=>?_);go_simp
     refine (HOy.out _).mono ?_
     rintro e wb ⟨rfl,hbb⟩
     have heb0:Below (wr.heap.size+1) (wr.alloc (.cells #[.int .i64 x.maker,.int .i64 x.seq] 90)) wb:=hea0.trans (hbb.mono (by have:=hea0.size;simp at this;omega))
     have hHb:=HP2.out _ heb0
     refine hK.out _ _ (fun _=>hHb) ?_
     clear hK K hbb hHa
     refine wpAnyT_one (i:=17) (by kernel_rfl) rfl (fun K hK=>?_);go_simp
     refine (HOx.out _).mono ?_
     rintro e wc ⟨rfl,hbc⟩
     have hec0:Below (wr.heap.size+1) (wr.alloc (.cells #[.int .i64 x.maker,.int .i64 x.seq] 90)) wc:=heb0.trans (hbc.mono (by have:=heb0.size;simp at this;omega))
     have hHc:=HP2.out _ hec0
     refine hK.out _ _ (fun _=>hHc) ?_
     clear hK K hbc hHb
     have hec:Below wr.heap.size wr wc:=HB1.out.trans (hec0.mono (by omega))
     have HC4:=HC3.out
     apply tkT 18
     apply tkT 19
     apply tkT 20
     refine wpAnyT_done (by kernel_rfl) ?_ _
     go_wp2
     go_roundw
     case rel=>exact ⟨k+1,by omega,by go_num,HS,hbel.trans (hec.mono hsz)⟩
     case measure=>simp [intOf];omega
   ·have dk:decide ((0:Int)<(k:Int))=false:=dcf (by omega)
    have HS:=Jh (Hst.out hx (fun h=>absurd h hp))
    clear hx Hno1 Hno2 Hst Hpr HO2 HO3 HC2 HP
    go_wp2_with fail
    refine wp_region_T 99 (fun w'=>w'.cell? ⟨wr.heap.size,0,none⟩=some (.int .i64 x.maker)∧w'.cell? ⟨wr.heap.size,1,none⟩=some (.int .i64 x.seq)) (by kernel_rfl) (HBL.out _ (below_drewN_ (Below.refl _ _) 1)) (fun hHeld=>?_)
    apply tkT 0
    apply tkT 1
    refine wpAnyT_one (i:=2) (by kernel_rfl) rfl (fun K hK=>?_);go_simp
    refine (HR2.out _ (below_drewN_ (Below.refl _ _) 1)).mono ?_
    rintro e wa ⟨rfl,hba⟩
    have hea0:Below (wr.heap.size+1) (wr.alloc (.cells #[.int .i64 x.maker,.int .i64 x.seq] 90)) wa:=(below_drewN_ (Below.refl _ _) 1).trans (hba.mono (by simp [World.drew]))
    have hea:Below wr.heap.size wr wa:=HB1.out.trans (hea0.mono (by omega))
    have hHa:=HBL.out _ hea0
    refine hK.out _ _ (fun _=>hHa) ?_
    clear hK K hHeld hba
    apply tkT 3
    apply tkT 4
    apply tkT 5
    apply tkT 6
    apply tkT 7
    apply tuT 8
    apply tuT 9
    apply tuT 10
    apply tuT 11
    apply tuT 12
    apply tuT 13
    apply tuT 14
    apply tuT 15
    apply tuT 16
    apply tuT 17
    apply tuT 18
    apply tkT 19
    apply tkT 20
    refine wpAnyT_done (by kernel_rfl) ?_ _
    go_wp2
    go_roundw
    case rel=>exact ⟨k+1,by omega,by go_num,HS,hbel.trans (hea.mono hsz)⟩
    case measure=>simp [intOf];omega
  ·obtain rfl:k=l.length:=by omega
   have HV:=Jh (ris_yes hall.out)
   go_wp2
   go_ret
   exact ⟨by rw [HV.out];rfl,hbel⟩
set_option maxRecDepth 100000 in
set_option maxHeartbeats 3200000 in
theorem risingO_calls (w:World) {B c:Nat} {A:Option Addr} {l:List Ow} (h:Reads w B 3 A l.length (l.flatMap Ow.cs)) (hB:B≤w.heap.size) (hn:l.length≤17592186044416) :
  Calls Tryz.prog 94 #[.slice A l.length c,.func (.func 95) #[] #[],.func (.func 96) #[] #[]] w fun e w'=>e=.returned (.bool (risB owB ltO l))∧Below w.heap.size w w':=by
 have HR:=Jh fun x (_:x∈l) W (_:Below w.heap.size w W)=>owner_calls x W
 have HO:=Jh fun x W (_:owB x=true)=>agentOf_calls x W
 have HC:Hid (∀ x y:Ow,decide (y.agent≤x.agent)=!ltO x y):=Jh fun x y=>by unfold ltO;by_cases h:x.agent<y.agent<;>simp [h]<;>omega
 have eg1:∀ args w,(callFunc 95 args).run Tryz.prog w=.ok (.enter 95 args) w:=enters_of Tryz.func95 (by kernel_rfl) rfl
 have eg2:∀ args w,(callFunc 96 args).run Tryz.prog w=.ok (.enter 96 args) w:=enters_of Tryz.func96 (by kernel_rfl) rfl
 go_enter Tryz.func94,Tryz.ntmps94
 go_wp2
 go_loopw [11] (fun i wr=>∃ k:Nat,k≤l.length∧i=.int .i64 (k:Int)∧Hid (∀ i,i<k→owB (gt l i)=true∧(0<i→ltO (gt l (i-1)) (gt l i)=true))∧Below w.heap.size w wr) (fun i _=>l.length-(intOf i).toNat)
 case atStart=>exact ⟨0,Nat.zero_le _,rfl,Jh fun i hi=>absurd hi (by omega),Below.refl _ _⟩
 case round =>
  obtain ⟨k,hk,rfl,hall,hbel⟩:=hrel
  by_cases hlt:k<l.length
  ·have hsz:=hbel.size
   have hr:=h.below (hbel.mono hB)
   obtain ⟨b,off,rfl,hbB⟩:=row_addr hr (by omega)
   have HG:Hid (∀ W,Below wr.heap.size wr W→∀ i,i<l.length→W.cell? ⟨b,off+i*3,none⟩=some (.int .i64 (gt l i).agent)∧W.cell? ⟨b,off+i*3+1,none⟩=some (.int .i64 (gt l i).life)∧W.cell? ⟨b,off+i*3+2,none⟩=some (.int .i64 (gt l i).count)):=Jh fun W hW i hi=>⟨row_cell ocs_len (hr.below (hW.mono (by omega))) hi (j:=0) rfl,row_cell ocs_len (hr.below (hW.mono (by omega))) hi (j:=1) rfl,row_cell ocs_len (hr.below (hW.mono (by omega))) hi (j:=2) rfl⟩
   obtain ⟨p0,p1,p2⟩:=HG.out wr (Below.refl _ _) k hlt
   have HX:=Jh (World.size_alloc wr (.cells #[.int .i64 (gt l k).agent,.int .i64 (gt l k).life,.int .i64 (gt l k).count] 26))
   have HB1:=Jh ((Below.refl wr.heap.size wr).alloc (Nat.le_refl _) (.cells #[.int .i64 (gt l k).agent,.int .i64 (gt l k).life,.int .i64 (gt l k).count] 26))
   have HR2:=Jh fun W (hW:Below (wr.heap.size+1) (wr.alloc (.cells #[.int .i64 (gt l k).agent,.int .i64 (gt l k).life,.int .i64 (gt l k).count] 26)) W)=>HR.out (gt l k) (gt_mem hlt) W (hbel.trans ((HB1.out.trans (hW.mono (by omega))).mono hsz))
   have HBL:Hid (∀ W,Below (wr.heap.size+1) (wr.alloc (.cells #[.int .i64 (gt l k).agent,.int .i64 (gt l k).life,.int .i64 (gt l k).count] 26)) W→W.cell? ⟨wr.heap.size,0,none⟩=some (.int .i64 (gt l k).agent)∧W.cell? ⟨wr.heap.size,1,none⟩=some (.int .i64 (gt l k).life)∧W.cell? ⟨wr.heap.size,2,none⟩=some (.int .i64 (gt l k).count)):=Jh fun W hW=>by
    have hb:=(Blk.new wr 26 #[.int .i64 (gt l k).agent,.int .i64 (gt l k).life,.int .i64 (gt l k).count]).below hW (by omega)
    exact ⟨hb.cell 0,hb.cell 1,hb.cell 2⟩
   have Hno1:=Jh (fun hh=>ris_no1 (r:=owB) (lt:=ltO) hlt hh)
   have Hno2:=Jh (fun hp hh=>ris_no2 (r:=owB) (lt:=ltO) hlt hp hh)
   have Hst:=Jh (fun h1 h2=>ris_step (r:=owB) (lt:=ltO) hall.out h1 h2)
   have Hpr:=Jh (fun (hp:0<k)=>(hall.out (k-1) (by omega)).1)
   have HO2:=Jh fun W h=>HO.out (gt l k) W h
   have HO3:=Jh fun W h=>HO.out (gt l (k-1)) W h
   have HC2:=Jh (HC.out (gt l (k-1)) (gt l k))
   have HP:=Jh fun W hW (hp:0<k)=>HG.out W hW (k-1) (by omega)
   clear hr HG hall h HR HO HC
   generalize gt l k=x at *
   generalize gt l (k-1)=y at *
   have n1:IntKind.i64.wrap ((k:Int)-1)=(k:Int)-1:=IntWalk.i64_in _ (by omega)
   cases hx:owB x
   ·have HV:=Jh (Hno1.out hx)
    rw [hx] at HR2
    clear hx Hno1 Hno2 Hst Hpr HO2 HO3 HC2 HP
    go_wp2_with fail
    refine wp_region_T 99 (fun w'=>w'.cell? ⟨wr.heap.size,0,none⟩=some (.int .i64 x.agent)∧w'.cell? ⟨wr.heap.size,1,none⟩=some (.int .i64 x.life)∧w'.cell? ⟨wr.heap.size,2,none⟩=some (.int .i64 x.count)) (by kernel_rfl) (HBL.out _ (below_drewN_ (Below.refl _ _) 1)) (fun hHeld=>?_)
    apply tkT 0
    apply tkT 1
    refine wpAnyT_one (i:=2) (by kernel_rfl) rfl (fun K hK=>?_);go_simp
    refine (HR2.out _ (below_drewN_ (Below.refl _ _) 1)).mono ?_
    rintro e wa ⟨rfl,hba⟩
    have hea0:Below (wr.heap.size+1) (wr.alloc (.cells #[.int .i64 x.agent,.int .i64 x.life,.int .i64 x.count] 26)) wa:=(below_drewN_ (Below.refl _ _) 1).trans (hba.mono (by simp [World.drew]))
    have hea:Below wr.heap.size wr wa:=HB1.out.trans (hea0.mono (by omega))
    have hHa:=HBL.out _ hea0
    refine hK.out _ _ (fun _=>hHa) ?_
    clear hK K hHeld hba
    apply tkT 3
    apply tkT 4
    apply tuT 5
    apply tuT 6
    apply tuT 7
    apply tuT 8
    apply tuT 9
    apply tuT 10
    apply tuT 11
    apply tuT 12
    apply tuT 13
    apply tuT 14
    apply tuT 15
    apply tuT 16
    apply tuT 17
    apply tuT 18
    apply tuT 19
    apply tkT 20
    refine wpAnyT_done (by kernel_rfl) ?_ _
    go_wp2
    go_ret
    exact ⟨by rw [HV.out];rfl,hbel.trans (hea.mono hsz)⟩
   rw [hx] at HR2
   have HOx:=Jh fun W=>HO2.out W hx
   by_cases hp:0<k
   ·have dk:decide ((0:Int)<(k:Int))=true:=dct (by omega)
    have k0:(0:Int)≤(k:Int)-1:=by omega
    have k9:(k:Int)-1<(l.length:Int):=by omega
    have k1:(1:Int)≤(k:Int):=by omega
    have k2:¬ (k:Int)<1:=by omega
    have e1:((k:Int)-1).toNat=k-1:=by omega
    have HOy:=Jh fun W=>HO3.out W (Hpr.out hp)
    have HP2:Hid (∀ W,Below (wr.heap.size+1) (wr.alloc (.cells #[.int .i64 x.agent,.int .i64 x.life,.int .i64 x.count] 26)) W→(W.cell? ⟨wr.heap.size,0,none⟩=some (.int .i64 x.agent)∧W.cell? ⟨wr.heap.size,1,none⟩=some (.int .i64 x.life)∧W.cell? ⟨wr.heap.size,2,none⟩=some (.int .i64 x.count))∧W.cell? ⟨b,off+(k-1)*3,none⟩=some (.int .i64 y.agent)∧W.cell? ⟨b,off+(k-1)*3+1,none⟩=some (.int .i64 y.life)∧W.cell? ⟨b,off+(k-1)*3+2,none⟩=some (.int .i64 y.count)):=Jh fun W hW=>⟨HBL.out W hW,HP.out W (HB1.out.trans (hW.mono (by omega))) hp⟩
    cases hlt2:ltO y x
    ·have HV:=Jh (Hno2.out hp hlt2)
     have HC3:=Jh HC2.out
     rw [hlt2] at HC3
     clear hx Hno1 Hno2 Hst Hpr HO2 HO3 HC2 HP HBL hlt2
     go_wp2_with fail
     refine wp_region_T 99 (fun w'=>(w'.cell? ⟨wr.heap.size,0,none⟩=some (.int .i64 x.agent)∧w'.cell? ⟨wr.heap.size,1,none⟩=some (.int .i64 x.life)∧w'.cell? ⟨wr.heap.size,2,none⟩=some (.int .i64 x.count))∧w'.cell? ⟨b,off+(k-1)*3,none⟩=some (.int .i64 y.agent)∧w'.cell? ⟨b,off+(k-1)*3+1,none⟩=some (.int .i64 y.life)∧w'.cell? ⟨b,off+(k-1)*3+2,none⟩=some (.int .i64 y.count)) (by kernel_rfl) (HP2.out _ (below_drewN_ (Below.refl _ _) 1)) (fun hHeld=>?_)
     apply tkT 0
     apply tkT 1
     refine wpAnyT_one (i:=2) (by kernel_rfl) rfl (fun K hK=>?_);go_simp
     refine (HR2.out _ (below_drewN_ (Below.refl _ _) 1)).mono ?_
     rintro e wa ⟨rfl,hba⟩
     have hea0:Below (wr.heap.size+1) (wr.alloc (.cells #[.int .i64 x.agent,.int .i64 x.life,.int .i64 x.count] 26)) wa:=(below_drewN_ (Below.refl _ _) 1).trans (hba.mono (by simp [World.drew]))
     have hHa:=HP2.out _ hea0
     refine hK.out _ _ (fun _=>hHa) ?_
     clear hK K hHeld hba
     apply tkT 3
     apply tkT 4
     apply tkT 5
     apply tkT 6
     apply tkT 7
     apply tkT 8
     apply tkT 9
     apply tkT 10
     apply tkT 11
     apply tkT (v:=.pointer (some ⟨b,off+(k-1)*3,none⟩)) 12
     apply tkT 13
     apply tkT 15
     apply tkT 16
     refine wpAnyT_one (i:=14) (by kernel_rfl) rfl (fun K hK=>?_);go_simp
     refine (HOy.out _).mono ?_
     rintro e wb ⟨rfl,hbb⟩
     have heb0:Below (wr.heap.size+1) (wr.alloc (.cells #[.int .i64 x.agent,.int .i64 x.life,.int .i64 x.count] 26)) wb:=hea0.trans (hbb.mono (by have:=hea0.size;simp at this;omega))
     have hHb:=HP2.out _ heb0
     refine hK.out _ _ (fun _=>hHb) ?_
     clear hK K hbb hHa
     refine wpAnyT_one (i:=17) (by kernel_rfl) rfl (fun K hK=>?_);go_simp
     refine (HOx.out _).mono ?_
     rintro e wc ⟨rfl,hbc⟩
     have hec0:Below (wr.heap.size+1) (wr.alloc (.cells #[.int .i64 x.agent,.int .i64 x.life,.int .i64 x.count] 26)) wc:=heb0.trans (hbc.mono (by have:=heb0.size;simp at this;omega))
     have hHc:=HP2.out _ hec0
     refine hK.out _ _ (fun _=>hHc) ?_
     clear hK K hbc hHb
     have hec:Below wr.heap.size wr wc:=HB1.out.trans (hec0.mono (by omega))
     have HC4:=HC3.out
     apply tkT 18
     apply tkT 19
     apply tkT 20
     refine wpAnyT_done (by kernel_rfl) ?_ _
     go_wp2
     go_ret
     exact ⟨by rw [HV.out];rfl,hbel.trans (hec.mono hsz)⟩
    ·have HS:=Jh (Hst.out hx (fun _=>hlt2))
     have HC3:=Jh HC2.out
     rw [hlt2] at HC3
     clear hx Hno1 Hno2 Hst Hpr HO2 HO3 HC2 HP HBL hlt2
     go_wp2_with fail
     refine wp_region_T 99 (fun w'=>(w'.cell? ⟨wr.heap.size,0,none⟩=some (.int .i64 x.agent)∧w'.cell? ⟨wr.heap.size,1,none⟩=some (.int .i64 x.life)∧w'.cell? ⟨wr.heap.size,2,none⟩=some (.int .i64 x.count))∧w'.cell? ⟨b,off+(k-1)*3,none⟩=some (.int .i64 y.agent)∧w'.cell? ⟨b,off+(k-1)*3+1,none⟩=some (.int .i64 y.life)∧w'.cell? ⟨b,off+(k-1)*3+2,none⟩=some (.int .i64 y.count)) (by kernel_rfl) (HP2.out _ (below_drewN_ (Below.refl _ _) 1)) (fun hHeld=>?_)
     apply tkT 0
     apply tkT 1
     refine wpAnyT_one (i:=2) (by kernel_rfl) rfl (fun K hK=>?_);go_simp
     refine (HR2.out _ (below_drewN_ (Below.refl _ _) 1)).mono ?_
     rintro e wa ⟨rfl,hba⟩
     have hea0:Below (wr.heap.size+1) (wr.alloc (.cells #[.int .i64 x.agent,.int .i64 x.life,.int .i64 x.count] 26)) wa:=(below_drewN_ (Below.refl _ _) 1).trans (hba.mono (by simp [World.drew]))
     have hHa:=HP2.out _ hea0
     refine hK.out _ _ (fun _=>hHa) ?_
     clear hK K hHeld hba
     apply tkT 3
     apply tkT 4
     apply tkT 5
     apply tkT 6
     apply tkT 7
     apply tkT 8
     apply tkT 9
     apply tkT 10
     apply tkT 11
     apply tkT (v:=.pointer (some ⟨b,off+(k-1)*3,none⟩)) 12
     apply tkT 13
     apply tkT 15
     apply tkT 16
     refine wpAnyT_one (i:=14) (by kernel_rfl) rfl (fun K hK=>?_);go_simp
     refine (HOy.out _).mono ?_
     rintro e wb ⟨rfl,hbb⟩
     have heb0:Below (wr.heap.size+1) (wr.alloc (.cells #[.int .i64 x.agent,.int .i64 x.life,.int .i64 x.count] 26)) wb:=hea0.trans (hbb.mono (by have:=hea0.size;simp at this;omega))
     have hHb:=HP2.out _ heb0
     refine hK.out _ _ (fun _=>hHb) ?_
     clear hK K hbb hHa
     refine wpAnyT_one (i:=17) (by kernel_rfl) rfl (fun K hK=>?_);go_simp
     refine (HOx.out _).mono ?_
     rintro e wc ⟨rfl,hbc⟩
     have hec0:Below (wr.heap.size+1) (wr.alloc (.cells #[.int .i64 x.agent,.int .i64 x.life,.int .i64 x.count] 26)) wc:=heb0.trans (hbc.mono (by have:=heb0.size;simp at this;omega))
     have hHc:=HP2.out _ hec0
     refine hK.out _ _ (fun _=>hHc) ?_
     clear hK K hbc hHb
     have hec:Below wr.heap.size wr wc:=HB1.out.trans (hec0.mono (by omega))
     have HC4:=HC3.out
     apply tkT 18
     apply tkT 19
     apply tkT 20
     refine wpAnyT_done (by kernel_rfl) ?_ _
     go_wp2
     go_roundw
     case rel=>exact ⟨k+1,by omega,by go_num,HS,hbel.trans (hec.mono hsz)⟩
     case measure=>simp [intOf];omega
   ·have dk:decide ((0:Int)<(k:Int))=false:=dcf (by omega)
    have HS:=Jh (Hst.out hx (fun h=>absurd h hp))
    clear hx Hno1 Hno2 Hst Hpr HO2 HO3 HC2 HP
    go_wp2_with fail
    refine wp_region_T 99 (fun w'=>w'.cell? ⟨wr.heap.size,0,none⟩=some (.int .i64 x.agent)∧w'.cell? ⟨wr.heap.size,1,none⟩=some (.int .i64 x.life)∧w'.cell? ⟨wr.heap.size,2,none⟩=some (.int .i64 x.count)) (by kernel_rfl) (HBL.out _ (below_drewN_ (Below.refl _ _) 1)) (fun hHeld=>?_)
    apply tkT 0
    apply tkT 1
    refine wpAnyT_one (i:=2) (by kernel_rfl) rfl (fun K hK=>?_);go_simp
    refine (HR2.out _ (below_drewN_ (Below.refl _ _) 1)).mono ?_
    rintro e wa ⟨rfl,hba⟩
    have hea0:Below (wr.heap.size+1) (wr.alloc (.cells #[.int .i64 x.agent,.int .i64 x.life,.int .i64 x.count] 26)) wa:=(below_drewN_ (Below.refl _ _) 1).trans (hba.mono (by simp [World.drew]))
    have hea:Below wr.heap.size wr wa:=HB1.out.trans (hea0.mono (by omega))
    have hHa:=HBL.out _ hea0
    refine hK.out _ _ (fun _=>hHa) ?_
    clear hK K hHeld hba
    apply tkT 3
    apply tkT 4
    apply tkT 5
    apply tkT 6
    apply tkT 7
    apply tuT 8
    apply tuT 9
    apply tuT 10
    apply tuT 11
    apply tuT 12
    apply tuT 13
    apply tuT 14
    apply tuT 15
    apply tuT 16
    apply tuT 17
    apply tuT 18
    apply tkT 19
    apply tkT 20
    refine wpAnyT_done (by kernel_rfl) ?_ _
    go_wp2
    go_roundw
    case rel=>exact ⟨k+1,by omega,by go_num,HS,hbel.trans (hea.mono hsz)⟩
    case measure=>simp [intOf];omega
  ·obtain rfl:k=l.length:=by omega
   have HV:=Jh (ris_yes hall.out)
   go_wp2
   go_ret
   exact ⟨by rw [HV.out];rfl,hbel⟩
set_option maxRecDepth 100000 in
set_option maxHeartbeats 3200000 in
theorem risingE_calls (w:World) {B c:Nat} {A:Option Addr} {l:List En} (h:Reads w B 9 A l.length (l.flatMap En.cs)) (hB:B≤w.heap.size) (hn:l.length≤17592186044416) (hok:∀ x∈l,x.Ok∧x.part.size≤100000) (hm:Sh w) :
  Calls Tryz.prog 88 #[.slice A l.length c,.func (.func 89) #[] #[],.func (.func 90) #[] #[]] w fun e w'=>e=.returned (.bool (risB enB ltE l))∧Below w.heap.size w w':=by
 have HR:=Jh fun x (hx:x∈l) W (hW:Below w.heap.size w W)=>entry_calls x W (hok x hx).1 (hok x hx).2 (hm.below hW hm.lt)
 have HO:=Jh fun x W (_:enB x=true)=>keyOf_calls x W
 have HC:Hid (∀ x y:En,(!Op.bytesLess x.key.toList y.key.toList)=!ltE x y):=Jh fun x y=>by rw [← ltS_less];rfl
 have eg1:∀ args w,(callFunc 89 args).run Tryz.prog w=.ok (.enter 89 args) w:=enters_of Tryz.func89 (by kernel_rfl) rfl
 have eg2:∀ args w,(callFunc 90 args).run Tryz.prog w=.ok (.enter 90 args) w:=enters_of Tryz.func90 (by kernel_rfl) rfl
 go_enter Tryz.func88,Tryz.ntmps88
 go_wp2
 go_loopw [11] (fun i wr=>∃ k:Nat,k≤l.length∧i=.int .i64 (k:Int)∧Hid (∀ i,i<k→enB (gt l i)=true∧(0<i→ltE (gt l (i-1)) (gt l i)=true))∧Below w.heap.size w wr) (fun i _=>l.length-(intOf i).toNat)
 case atStart=>exact ⟨0,Nat.zero_le _,rfl,Jh fun i hi=>absurd hi (by omega),Below.refl _ _⟩
 case round =>
  obtain ⟨k,hk,rfl,hall,hbel⟩:=hrel
  by_cases hlt:k<l.length
  ·have hsz:=hbel.size
   have hr:=h.below (hbel.mono hB)
   obtain ⟨b,off,rfl,hbB⟩:=row_addr hr (by omega)
   have HG:Hid (∀ W,Below wr.heap.size wr W→∀ i,i<l.length→W.cell? ⟨b,off+i*9,none⟩=some (.string (gt l i).key)∧W.cell? ⟨b,off+i*9+1,none⟩=some (.int .i64 (gt l i).window)∧W.cell? ⟨b,off+i*9+2,none⟩=some (.string (gt l i).part)∧W.cell? ⟨b,off+i*9+3,none⟩=some (.int .i64 (gt l i).first)∧W.cell? ⟨b,off+i*9+4,none⟩=some (.int .i64 (gt l i).last)∧W.cell? ⟨b,off+i*9+5,none⟩=some (.int .i64 (gt l i).rows)∧W.cell? ⟨b,off+i*9+6,none⟩=some (.int .i64 (gt l i).size)∧W.cell? ⟨b,off+i*9+7,none⟩=some (.int .u32 (gt l i).sum)∧W.cell? ⟨b,off+i*9+8,none⟩=some (.int .i64 (gt l i).born)):=Jh fun W hW i hi=>⟨row_cell ecs_len (hr.below (hW.mono (by omega))) hi (j:=0) rfl,row_cell ecs_len (hr.below (hW.mono (by omega))) hi (j:=1) rfl,row_cell ecs_len (hr.below (hW.mono (by omega))) hi (j:=2) rfl,row_cell ecs_len (hr.below (hW.mono (by omega))) hi (j:=3) rfl,row_cell ecs_len (hr.below (hW.mono (by omega))) hi (j:=4) rfl,row_cell ecs_len (hr.below (hW.mono (by omega))) hi (j:=5) rfl,row_cell ecs_len (hr.below (hW.mono (by omega))) hi (j:=6) rfl,row_cell ecs_len (hr.below (hW.mono (by omega))) hi (j:=7) rfl,row_cell ecs_len (hr.below (hW.mono (by omega))) hi (j:=8) rfl⟩
   obtain ⟨p0,p1,p2,p3,p4,p5,p6,p7,p8⟩:=HG.out wr (Below.refl _ _) k hlt
   have HX:=Jh (World.size_alloc wr (.cells #[.string (gt l k).key,.int .i64 (gt l k).window,.string (gt l k).part,.int .i64 (gt l k).first,.int .i64 (gt l k).last,.int .i64 (gt l k).rows,.int .i64 (gt l k).size,.int .u32 (gt l k).sum,.int .i64 (gt l k).born] 85))
   have HB1:=Jh ((Below.refl wr.heap.size wr).alloc (Nat.le_refl _) (.cells #[.string (gt l k).key,.int .i64 (gt l k).window,.string (gt l k).part,.int .i64 (gt l k).first,.int .i64 (gt l k).last,.int .i64 (gt l k).rows,.int .i64 (gt l k).size,.int .u32 (gt l k).sum,.int .i64 (gt l k).born] 85))
   have HR2:=Jh fun W (hW:Below (wr.heap.size+1) (wr.alloc (.cells #[.string (gt l k).key,.int .i64 (gt l k).window,.string (gt l k).part,.int .i64 (gt l k).first,.int .i64 (gt l k).last,.int .i64 (gt l k).rows,.int .i64 (gt l k).size,.int .u32 (gt l k).sum,.int .i64 (gt l k).born] 85)) W)=>HR.out (gt l k) (gt_mem hlt) W (hbel.trans ((HB1.out.trans (hW.mono (by omega))).mono hsz))
   have HBL:Hid (∀ W,Below (wr.heap.size+1) (wr.alloc (.cells #[.string (gt l k).key,.int .i64 (gt l k).window,.string (gt l k).part,.int .i64 (gt l k).first,.int .i64 (gt l k).last,.int .i64 (gt l k).rows,.int .i64 (gt l k).size,.int .u32 (gt l k).sum,.int .i64 (gt l k).born] 85)) W→W.cell? ⟨wr.heap.size,0,none⟩=some (.string (gt l k).key)∧W.cell? ⟨wr.heap.size,1,none⟩=some (.int .i64 (gt l k).window)∧W.cell? ⟨wr.heap.size,2,none⟩=some (.string (gt l k).part)∧W.cell? ⟨wr.heap.size,3,none⟩=some (.int .i64 (gt l k).first)∧W.cell? ⟨wr.heap.size,4,none⟩=some (.int .i64 (gt l k).last)∧W.cell? ⟨wr.heap.size,5,none⟩=some (.int .i64 (gt l k).rows)∧W.cell? ⟨wr.heap.size,6,none⟩=some (.int .i64 (gt l k).size)∧W.cell? ⟨wr.heap.size,7,none⟩=some (.int .u32 (gt l k).sum)∧W.cell? ⟨wr.heap.size,8,none⟩=some (.int .i64 (gt l k).born)):=Jh fun W hW=>by
    have hb:=(Blk.new wr 85 #[.string (gt l k).key,.int .i64 (gt l k).window,.string (gt l k).part,.int .i64 (gt l k).first,.int .i64 (gt l k).last,.int .i64 (gt l k).rows,.int .i64 (gt l k).size,.int .u32 (gt l k).sum,.int .i64 (gt l k).born]).below hW (by omega)
    exact ⟨hb.cell 0,hb.cell 1,hb.cell 2,hb.cell 3,hb.cell 4,hb.cell 5,hb.cell 6,hb.cell 7,hb.cell 8⟩
   have Hno1:=Jh (fun hh=>ris_no1 (r:=enB) (lt:=ltE) hlt hh)
   have Hno2:=Jh (fun hp hh=>ris_no2 (r:=enB) (lt:=ltE) hlt hp hh)
   have Hst:=Jh (fun h1 h2=>ris_step (r:=enB) (lt:=ltE) hall.out h1 h2)
   have Hpr:=Jh (fun (hp:0<k)=>(hall.out (k-1) (by omega)).1)
   have HO2:=Jh fun W h=>HO.out (gt l k) W h
   have HO3:=Jh fun W h=>HO.out (gt l (k-1)) W h
   have HC2:=Jh (HC.out (gt l (k-1)) (gt l k))
   have HP:=Jh fun W hW (hp:0<k)=>HG.out W hW (k-1) (by omega)
   clear hr HG hall h HR HO HC
   generalize gt l k=x at *
   generalize gt l (k-1)=y at *
   have n1:IntKind.i64.wrap ((k:Int)-1)=(k:Int)-1:=IntWalk.i64_in _ (by omega)
   cases hx:enB x
   ·have HV:=Jh (Hno1.out hx)
    rw [hx] at HR2
    clear hx Hno1 Hno2 Hst Hpr HO2 HO3 HC2 HP
    go_wp2_with fail
    refine wp_region_T 99 (fun w'=>w'.cell? ⟨wr.heap.size,0,none⟩=some (.string x.key)∧w'.cell? ⟨wr.heap.size,1,none⟩=some (.int .i64 x.window)∧w'.cell? ⟨wr.heap.size,2,none⟩=some (.string x.part)∧w'.cell? ⟨wr.heap.size,3,none⟩=some (.int .i64 x.first)∧w'.cell? ⟨wr.heap.size,4,none⟩=some (.int .i64 x.last)∧w'.cell? ⟨wr.heap.size,5,none⟩=some (.int .i64 x.rows)∧w'.cell? ⟨wr.heap.size,6,none⟩=some (.int .i64 x.size)∧w'.cell? ⟨wr.heap.size,7,none⟩=some (.int .u32 x.sum)∧w'.cell? ⟨wr.heap.size,8,none⟩=some (.int .i64 x.born)) (by kernel_rfl) (HBL.out _ (below_drewN_ (Below.refl _ _) 1)) (fun hHeld=>?_)
    apply tkT 0
    apply tkT 1
    refine wpAnyT_one (i:=2) (by kernel_rfl) rfl (fun K hK=>?_);go_simp
    refine (HR2.out _ (below_drewN_ (Below.refl _ _) 1)).mono ?_
    rintro e wa ⟨rfl,hba⟩
    have hea0:Below (wr.heap.size+1) (wr.alloc (.cells #[.string x.key,.int .i64 x.window,.string x.part,.int .i64 x.first,.int .i64 x.last,.int .i64 x.rows,.int .i64 x.size,.int .u32 x.sum,.int .i64 x.born] 85)) wa:=(below_drewN_ (Below.refl _ _) 1).trans (hba.mono (by simp [World.drew]))
    have hea:Below wr.heap.size wr wa:=HB1.out.trans (hea0.mono (by omega))
    have hHa:=HBL.out _ hea0
    refine hK.out _ _ (fun _=>hHa) ?_
    clear hK K hHeld hba
    apply tkT 3
    apply tkT 4
    apply tuT 5
    apply tuT 6
    apply tuT 7
    apply tuT 8
    apply tuT 9
    apply tuT 10
    apply tuT 11
    apply tuT 12
    apply tuT 13
    apply tuT 14
    apply tuT 15
    apply tuT 16
    apply tuT 17
    apply tuT 18
    apply tuT 19
    apply tkT 20
    refine wpAnyT_done (by kernel_rfl) ?_ _
    go_wp2
    go_ret
    exact ⟨by rw [HV.out];rfl,hbel.trans (hea.mono hsz)⟩
   rw [hx] at HR2
   have HOx:=Jh fun W=>HO2.out W hx
   by_cases hp:0<k
   ·have dk:decide ((0:Int)<(k:Int))=true:=dct (by omega)
    have k0:(0:Int)≤(k:Int)-1:=by omega
    have k9:(k:Int)-1<(l.length:Int):=by omega
    have k1:(1:Int)≤(k:Int):=by omega
    have k2:¬ (k:Int)<1:=by omega
    have e1:((k:Int)-1).toNat=k-1:=by omega
    have HOy:=Jh fun W=>HO3.out W (Hpr.out hp)
    have HP2:Hid (∀ W,Below (wr.heap.size+1) (wr.alloc (.cells #[.string x.key,.int .i64 x.window,.string x.part,.int .i64 x.first,.int .i64 x.last,.int .i64 x.rows,.int .i64 x.size,.int .u32 x.sum,.int .i64 x.born] 85)) W→(W.cell? ⟨wr.heap.size,0,none⟩=some (.string x.key)∧W.cell? ⟨wr.heap.size,1,none⟩=some (.int .i64 x.window)∧W.cell? ⟨wr.heap.size,2,none⟩=some (.string x.part)∧W.cell? ⟨wr.heap.size,3,none⟩=some (.int .i64 x.first)∧W.cell? ⟨wr.heap.size,4,none⟩=some (.int .i64 x.last)∧W.cell? ⟨wr.heap.size,5,none⟩=some (.int .i64 x.rows)∧W.cell? ⟨wr.heap.size,6,none⟩=some (.int .i64 x.size)∧W.cell? ⟨wr.heap.size,7,none⟩=some (.int .u32 x.sum)∧W.cell? ⟨wr.heap.size,8,none⟩=some (.int .i64 x.born))∧W.cell? ⟨b,off+(k-1)*9,none⟩=some (.string y.key)∧W.cell? ⟨b,off+(k-1)*9+1,none⟩=some (.int .i64 y.window)∧W.cell? ⟨b,off+(k-1)*9+2,none⟩=some (.string y.part)∧W.cell? ⟨b,off+(k-1)*9+3,none⟩=some (.int .i64 y.first)∧W.cell? ⟨b,off+(k-1)*9+4,none⟩=some (.int .i64 y.last)∧W.cell? ⟨b,off+(k-1)*9+5,none⟩=some (.int .i64 y.rows)∧W.cell? ⟨b,off+(k-1)*9+6,none⟩=some (.int .i64 y.size)∧W.cell? ⟨b,off+(k-1)*9+7,none⟩=some (.int .u32 y.sum)∧W.cell? ⟨b,off+(k-1)*9+8,none⟩=some (.int .i64 y.born)):=Jh fun W hW=>⟨HBL.out W hW,HP.out W (HB1.out.trans (hW.mono (by omega))) hp⟩
    cases hlt2:ltE y x
    ·have HV:=Jh (Hno2.out hp hlt2)
     have HC3:=Jh HC2.out
     rw [hlt2] at HC3
     clear hx Hno1 Hno2 Hst Hpr HO2 HO3 HC2 HP HBL hlt2
     go_wp2_with fail
     refine wp_region_T 99 (fun w'=>(w'.cell? ⟨wr.heap.size,0,none⟩=some (.string x.key)∧w'.cell? ⟨wr.heap.size,1,none⟩=some (.int .i64 x.window)∧w'.cell? ⟨wr.heap.size,2,none⟩=some (.string x.part)∧w'.cell? ⟨wr.heap.size,3,none⟩=some (.int .i64 x.first)∧w'.cell? ⟨wr.heap.size,4,none⟩=some (.int .i64 x.last)∧w'.cell? ⟨wr.heap.size,5,none⟩=some (.int .i64 x.rows)∧w'.cell? ⟨wr.heap.size,6,none⟩=some (.int .i64 x.size)∧w'.cell? ⟨wr.heap.size,7,none⟩=some (.int .u32 x.sum)∧w'.cell? ⟨wr.heap.size,8,none⟩=some (.int .i64 x.born))∧w'.cell? ⟨b,off+(k-1)*9,none⟩=some (.string y.key)∧w'.cell? ⟨b,off+(k-1)*9+1,none⟩=some (.int .i64 y.window)∧w'.cell? ⟨b,off+(k-1)*9+2,none⟩=some (.string y.part)∧w'.cell? ⟨b,off+(k-1)*9+3,none⟩=some (.int .i64 y.first)∧w'.cell? ⟨b,off+(k-1)*9+4,none⟩=some (.int .i64 y.last)∧w'.cell? ⟨b,off+(k-1)*9+5,none⟩=some (.int .i64 y.rows)∧w'.cell? ⟨b,off+(k-1)*9+6,none⟩=some (.int .i64 y.size)∧w'.cell? ⟨b,off+(k-1)*9+7,none⟩=some (.int .u32 y.sum)∧w'.cell? ⟨b,off+(k-1)*9+8,none⟩=some (.int .i64 y.born)) (by kernel_rfl) (HP2.out _ (below_drewN_ (Below.refl _ _) 1)) (fun hHeld=>?_)
     apply tkT 0
     apply tkT 1
     refine wpAnyT_one (i:=2) (by kernel_rfl) rfl (fun K hK=>?_);go_simp
     refine (HR2.out _ (below_drewN_ (Below.refl _ _) 1)).mono ?_
     rintro e wa ⟨rfl,hba⟩
     have hea0:Below (wr.heap.size+1) (wr.alloc (.cells #[.string x.key,.int .i64 x.window,.string x.part,.int .i64 x.first,.int .i64 x.last,.int .i64 x.rows,.int .i64 x.size,.int .u32 x.sum,.int .i64 x.born] 85)) wa:=(below_drewN_ (Below.refl _ _) 1).trans (hba.mono (by simp [World.drew]))
     have hHa:=HP2.out _ hea0
     refine hK.out _ _ (fun _=>hHa) ?_
     clear hK K hHeld hba
     apply tkT 3
     apply tkT 4
     apply tkT 5
     apply tkT 6
     apply tkT 7
     apply tkT 8
     apply tkT 9
     apply tkT 10
     apply tkT 11
     apply tkT (v:=.pointer (some ⟨b,off+(k-1)*9,none⟩)) 12
     apply tkT 13
     apply tkT 15
     apply tkT 16
     refine wpAnyT_one (i:=14) (by kernel_rfl) rfl (fun K hK=>?_);go_simp
     refine (HOy.out _).mono ?_
     rintro e wb ⟨rfl,hbb⟩
     have heb0:Below (wr.heap.size+1) (wr.alloc (.cells #[.string x.key,.int .i64 x.window,.string x.part,.int .i64 x.first,.int .i64 x.last,.int .i64 x.rows,.int .i64 x.size,.int .u32 x.sum,.int .i64 x.born] 85)) wb:=hea0.trans (hbb.mono (by have:=hea0.size;simp at this;omega))
     have hHb:=HP2.out _ heb0
     refine hK.out _ _ (fun _=>hHb) ?_
     clear hK K hbb hHa
     refine wpAnyT_one (i:=17) (by kernel_rfl) rfl (fun K hK=>?_);go_simp
     refine (HOx.out _).mono ?_
     rintro e wc ⟨rfl,hbc⟩
     have hec0:Below (wr.heap.size+1) (wr.alloc (.cells #[.string x.key,.int .i64 x.window,.string x.part,.int .i64 x.first,.int .i64 x.last,.int .i64 x.rows,.int .i64 x.size,.int .u32 x.sum,.int .i64 x.born] 85)) wc:=heb0.trans (hbc.mono (by have:=heb0.size;simp at this;omega))
     have hHc:=HP2.out _ hec0
     refine hK.out _ _ (fun _=>hHc) ?_
     clear hK K hbc hHb
     have hec:Below wr.heap.size wr wc:=HB1.out.trans (hec0.mono (by omega))
     have HC4:=HC3.out
     apply tkT 18
     apply tkT 19
     apply tkT 20
     refine wpAnyT_done (by kernel_rfl) ?_ _
     go_wp2
     go_ret
     exact ⟨by rw [HV.out];rfl,hbel.trans (hec.mono hsz)⟩
    ·have HS:=Jh (Hst.out hx (fun _=>hlt2))
     have HC3:=Jh HC2.out
     rw [hlt2] at HC3
     clear hx Hno1 Hno2 Hst Hpr HO2 HO3 HC2 HP HBL hlt2
     go_wp2_with fail
     refine wp_region_T 99 (fun w'=>(w'.cell? ⟨wr.heap.size,0,none⟩=some (.string x.key)∧w'.cell? ⟨wr.heap.size,1,none⟩=some (.int .i64 x.window)∧w'.cell? ⟨wr.heap.size,2,none⟩=some (.string x.part)∧w'.cell? ⟨wr.heap.size,3,none⟩=some (.int .i64 x.first)∧w'.cell? ⟨wr.heap.size,4,none⟩=some (.int .i64 x.last)∧w'.cell? ⟨wr.heap.size,5,none⟩=some (.int .i64 x.rows)∧w'.cell? ⟨wr.heap.size,6,none⟩=some (.int .i64 x.size)∧w'.cell? ⟨wr.heap.size,7,none⟩=some (.int .u32 x.sum)∧w'.cell? ⟨wr.heap.size,8,none⟩=some (.int .i64 x.born))∧w'.cell? ⟨b,off+(k-1)*9,none⟩=some (.string y.key)∧w'.cell? ⟨b,off+(k-1)*9+1,none⟩=some (.int .i64 y.window)∧w'.cell? ⟨b,off+(k-1)*9+2,none⟩=some (.string y.part)∧w'.cell? ⟨b,off+(k-1)*9+3,none⟩=some (.int .i64 y.first)∧w'.cell? ⟨b,off+(k-1)*9+4,none⟩=some (.int .i64 y.last)∧w'.cell? ⟨b,off+(k-1)*9+5,none⟩=some (.int .i64 y.rows)∧w'.cell? ⟨b,off+(k-1)*9+6,none⟩=some (.int .i64 y.size)∧w'.cell? ⟨b,off+(k-1)*9+7,none⟩=some (.int .u32 y.sum)∧w'.cell? ⟨b,off+(k-1)*9+8,none⟩=some (.int .i64 y.born)) (by kernel_rfl) (HP2.out _ (below_drewN_ (Below.refl _ _) 1)) (fun hHeld=>?_)
     apply tkT 0
     apply tkT 1
     refine wpAnyT_one (i:=2) (by kernel_rfl) rfl (fun K hK=>?_);go_simp
     refine (HR2.out _ (below_drewN_ (Below.refl _ _) 1)).mono ?_
     rintro e wa ⟨rfl,hba⟩
     have hea0:Below (wr.heap.size+1) (wr.alloc (.cells #[.string x.key,.int .i64 x.window,.string x.part,.int .i64 x.first,.int .i64 x.last,.int .i64 x.rows,.int .i64 x.size,.int .u32 x.sum,.int .i64 x.born] 85)) wa:=(below_drewN_ (Below.refl _ _) 1).trans (hba.mono (by simp [World.drew]))
     have hHa:=HP2.out _ hea0
     refine hK.out _ _ (fun _=>hHa) ?_
     clear hK K hHeld hba
     apply tkT 3
     apply tkT 4
     apply tkT 5
     apply tkT 6
     apply tkT 7
     apply tkT 8
     apply tkT 9
     apply tkT 10
     apply tkT 11
     apply tkT (v:=.pointer (some ⟨b,off+(k-1)*9,none⟩)) 12
     apply tkT 13
     apply tkT 15
     apply tkT 16
     refine wpAnyT_one (i:=14) (by kernel_rfl) rfl (fun K hK=>?_);go_simp
     refine (HOy.out _).mono ?_
     rintro e wb ⟨rfl,hbb⟩
     have heb0:Below (wr.heap.size+1) (wr.alloc (.cells #[.string x.key,.int .i64 x.window,.string x.part,.int .i64 x.first,.int .i64 x.last,.int .i64 x.rows,.int .i64 x.size,.int .u32 x.sum,.int .i64 x.born] 85)) wb:=hea0.trans (hbb.mono (by have:=hea0.size;simp at this;omega))
     have hHb:=HP2.out _ heb0
     refine hK.out _ _ (fun _=>hHb) ?_
     clear hK K hbb hHa
     refine wpAnyT_one (i:=17) (by kernel_rfl) rfl (fun K hK=>?_);go_simp
     refine (HOx.out _).mono ?_
     rintro e wc ⟨rfl,hbc⟩
     have hec0:Below (wr.heap.size+1) (wr.alloc (.cells #[.string x.key,.int .i64 x.window,.string x.part,.int .i64 x.first,.int .i64 x.last,.int .i64 x.rows,.int .i64 x.size,.int .u32 x.sum,.int .i64 x.born] 85)) wc:=heb0.trans (hbc.mono (by have:=heb0.size;simp at this;omega))
     have hHc:=HP2.out _ hec0
     refine hK.out _ _ (fun _=>hHc) ?_
     clear hK K hbc hHb
     have hec:Below wr.heap.size wr wc:=HB1.out.trans (hec0.mono (by omega))
     have HC4:=HC3.out
     apply tkT 18
     apply tkT 19
     apply tkT 20
     refine wpAnyT_done (by kernel_rfl) ?_ _
     go_wp2
     go_roundw
     case rel=>exact ⟨k+1,by omega,by go_num,HS,hbel.trans (hec.mono hsz)⟩
     case measure=>simp [intOf];omega
   ·have dk:decide ((0:Int)<(k:Int))=false:=dcf (by omega)
    have HS:=Jh (Hst.out hx (fun h=>absurd h hp))
    clear hx Hno1 Hno2 Hst Hpr HO2 HO3 HC2 HP
    go_wp2_with fail
    refine wp_region_T 99 (fun w'=>w'.cell? ⟨wr.heap.size,0,none⟩=some (.string x.key)∧w'.cell? ⟨wr.heap.size,1,none⟩=some (.int .i64 x.window)∧w'.cell? ⟨wr.heap.size,2,none⟩=some (.string x.part)∧w'.cell? ⟨wr.heap.size,3,none⟩=some (.int .i64 x.first)∧w'.cell? ⟨wr.heap.size,4,none⟩=some (.int .i64 x.last)∧w'.cell? ⟨wr.heap.size,5,none⟩=some (.int .i64 x.rows)∧w'.cell? ⟨wr.heap.size,6,none⟩=some (.int .i64 x.size)∧w'.cell? ⟨wr.heap.size,7,none⟩=some (.int .u32 x.sum)∧w'.cell? ⟨wr.heap.size,8,none⟩=some (.int .i64 x.born)) (by kernel_rfl) (HBL.out _ (below_drewN_ (Below.refl _ _) 1)) (fun hHeld=>?_)
    apply tkT 0
    apply tkT 1
    refine wpAnyT_one (i:=2) (by kernel_rfl) rfl (fun K hK=>?_);go_simp
    refine (HR2.out _ (below_drewN_ (Below.refl _ _) 1)).mono ?_
    rintro e wa ⟨rfl,hba⟩
    have hea0:Below (wr.heap.size+1) (wr.alloc (.cells #[.string x.key,.int .i64 x.window,.string x.part,.int .i64 x.first,.int .i64 x.last,.int .i64 x.rows,.int .i64 x.size,.int .u32 x.sum,.int .i64 x.born] 85)) wa:=(below_drewN_ (Below.refl _ _) 1).trans (hba.mono (by simp [World.drew]))
    have hea:Below wr.heap.size wr wa:=HB1.out.trans (hea0.mono (by omega))
    have hHa:=HBL.out _ hea0
    refine hK.out _ _ (fun _=>hHa) ?_
    clear hK K hHeld hba
    apply tkT 3
    apply tkT 4
    apply tkT 5
    apply tkT 6
    apply tkT 7
    apply tuT 8
    apply tuT 9
    apply tuT 10
    apply tuT 11
    apply tuT 12
    apply tuT 13
    apply tuT 14
    apply tuT 15
    apply tuT 16
    apply tuT 17
    apply tuT 18
    apply tkT 19
    apply tkT 20
    refine wpAnyT_done (by kernel_rfl) ?_ _
    go_wp2
    go_roundw
    case rel=>exact ⟨k+1,by omega,by go_num,HS,hbel.trans (hea.mono hsz)⟩
    case measure=>simp [intOf];omega
  ·obtain rfl:k=l.length:=by omega
   have HV:=Jh (ris_yes hall.out)
   go_wp2
   go_ret
   exact ⟨by rw [HV.out];rfl,hbel⟩
end Go.Proofs.YtibnehaibgbliaaGreat.Mf
