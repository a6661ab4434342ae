/- The document's bay: Count, Most, Put (chapter 15). -/
import Derived.Test.YtepfggfideianaaProg
import Derived.Test.YtepfggfideianaaByF
namespace Go.Proofs.Ytepfggfideianaa
open Go.RowKit Go.Conc
namespace By

def Kx (w : World) (B : Nat) (A : Option Addr) (l : List KX) : Prop := Reads w B 2 A l.length (kxc l)
def RB (w : World) (g room : Nat) (L : List KX) : Prop := ∃ A c, Blk w g 53 #[.slice A L.length c, .int .i64 (room : Int)] ∧ L.length ≤ c ∧ c ≤ maxLen ∧ Kx w w.heap.size A L ∧ ∀ a, A = some a → a.block ≠ g
section
variable {w w' : World} {g room : Nat} {L : List KX}
theorem RB.lt (h : RB w g room L) : g < w.heap.size := by obtain ⟨_, _, hb, _⟩ := h; exact hb.lt
theorem RB.below (h : RB w g room L) (hb : Below w.heap.size w w') : RB w' g room L := by
  obtain ⟨A, c, hb1, h1, h2, h3, h4⟩ := h
  exact ⟨A, c, hb1.below hb hb1.lt, h1, h2, (Reads.below h3 hb).more hb.size, h4⟩
theorem RB.ck (h : RB w g room L) (hb : CK w w') : RB w' g room L := by
  obtain ⟨A, c, hb1, h1, h2, h3, h4⟩ := h
  exact ⟨A, c, hb.blk hb1, h1, h2, (hb.reads h3).more hb.1, h4⟩
theorem RB.new (w : World) (room : Nat) : RB (w.alloc (.cells #[.slice none 0 0, .int .i64 (room : Int)] 53)) w.heap.size room [] :=
  ⟨none, 0, Blk.new _ _ _, Nat.le_refl _, Nat.zero_le _, ⟨rfl, fun h => absurd h (by simp)⟩, fun a ha => by cases ha⟩
/-- Another list in its place. -/
theorem RB.put {A2 : Option Addr} {c2 : Nat} {M : List KX} {cs : Array Value} (hb : Blk w' g 53 cs) (hcs : cs = #[cs.getD 0 undef, .int .i64 (room : Int)]) (h1 : M.length ≤ c2) (h2 : c2 ≤ maxLen) (h3 : Kx w' w'.heap.size A2 M) (h4 : ∀ a, A2 = some a → a.block ≠ g) :
    RB (w'.setCell ⟨g, 0, none⟩ (.slice A2 M.length c2)) g room M := by
  refine ⟨A2, c2, ?_, h1, h2, ?_, h4⟩
  · have := hb.set_ 0 (.slice A2 M.length c2)
    rw [hcs] at this
    exact this
  · have hk : Reads (w'.setCell ⟨g, 0, none⟩ (.slice A2 M.length c2)) w'.heap.size 2 A2 M.length (kxc M) := ⟨h3.1, fun hn => by
      obtain ⟨b, off, e, hb, hc⟩ := h3.2 hn
      exact ⟨b, off, e, hb, fun j u hu => (World.cell?_setCell_other _ _ _ _ (fun e' => h4 _ e (by injection e' with e1 _; exact e1.symm))).trans (hc j u hu)⟩⟩
    have : Reads (w'.setCell ⟨g, 0, none⟩ (.slice A2 M.length c2)) (w'.setCell ⟨g, 0, none⟩ (.slice A2 M.length c2)).heap.size 2 A2 M.length (kxc M) := by simpa using hk
    exact this
end
set_option maxRecDepth 100000 in
theorem count_calls (w : World) {B c : Nat} {A : Option Addr} {L : List KX} (k : ByteArray) (h : Kx w B A L) (hB : B ≤ w.heap.size) (hn : L.length ≤ 1000000) :
    Calls Try.prog 30 #[.slice A L.length c, .string k] w fun e w' => e = .returned (.int .i64 (cnt L k : Int)) ∧ Below w.heap.size w w' := by
  have H1 := Lib.hid h
  clear h
  go_enter Try.func30, Try.ntmps30
  go_wp2
  go_loopw [5, 10] (fun n i wr => ∃ j : Nat, j ≤ L.length ∧ i = .int .i64 (j : Int) ∧ n = .int .i64 (cnt (L.take j) k : Int) ∧ Hid (Below w.heap.size w wr)) (fun _ i _ => L.length - (intOf i).toNat)
  case atStart => exact ⟨0, Nat.zero_le _, rfl, rfl, Lib.hid (Below.refl _ _)⟩
  case round =>
    obtain ⟨j, hj, rfl, rfl, HW⟩ := hrel
    obtain ⟨wo, rfl⟩ : ∃ wo : World, wo = wr := ⟨_, rfl⟩
    have hso := HW.out.size
    by_cases hlt : j < L.length
    · obtain ⟨b, o, e, hb, hc⟩ := rd_cells (Reads.below H1.out (HW.out.mono hB)) (by omega)
      obtain ⟨x0, x1⟩ := hc j hlt
      have i0 : (0 : Int) ≤ (j : Int) := by omega
      have i9 : (j : Int) < (L.length : Int) := by omega
      have HT : Hid (cnt (L.take (j + 1)) k = cnt (L.take j) k + if (gk L j).1 = k then 1 else 0) := Lib.hid (by rw [gk_snoc hlt, cnt_app, cnt_one])
      have hcl := cnt_le (L.take j) k
      have hc9 : cnt (L.take j) k ≤ 1000000 := by rw [List.length_take] at hcl; omega
      clear hc hcl
      subst e
      generalize gk L j = x at *
      generalize cnt (L.take j) k = q at *
      by_cases hx : x.1 = k
      · have he : (x.1.toList == k.toList) = true := by rw [hx]; simp
        rw [if_pos hx] at HT
        clear hx
        go_wp2
        go_roundw
        case rel => exact ⟨j + 1, by omega, by go_num, by rw [HT.out]; go_num, Lib.hid (HW.out.alloc hso _)⟩
        case measure => simp [intOf]; omega
      · have he : (x.1.toList == k.toList) = false := by
          rw [beq_eq_false_iff_ne, ByteArray.toList_eq, ByteArray.toList_eq]
          exact fun e => hx (ByteArray.ext (Array.toList_inj.1 e))
        rw [if_neg hx] at HT
        clear hx
        go_wp2
        go_roundw
        case rel => exact ⟨j + 1, by omega, by go_num, by rw [HT.out]; rfl, Lib.hid (HW.out.alloc hso _)⟩
        case measure => simp [intOf]; omega
    · obtain rfl : j = L.length := by omega
      rw [List.take_length]
      go_wp2
      go_ret
      exact ⟨rfl, HW.out⟩
theorem Most.snoc {l : List Nat} {n x : Nat} (h : Most l n) : Most (l ++ [x]) (max n x) := by
  refine ⟨fun y hy => ?_, ?_⟩
  · rcases List.mem_append.1 hy with hy | hy
    · have := h.1 y hy; omega
    · rw [List.mem_singleton] at hy; omega
  · rcases Nat.le_total n x with e | e
    · rw [Nat.max_eq_right e]; exact .inr (by simp)
    · rw [Nat.max_eq_left e]
      rcases h.2 with h | h
      · exact .inl h
      · exact .inr (List.mem_append_left _ h)
def RetRMost (w : World) (L : List KX) (e : Ending) (w' : World) : Prop := ∃ n : Nat, e = .returned (.int .i64 (n : Int)) ∧ Most (L.map fun x => cnt L x.1) n ∧ n ≤ 1000000 ∧ Below w.heap.size w w'
set_option maxRecDepth 100000 in
set_option maxHeartbeats 1600000 in
theorem rmost_calls (w : World) {g room : Nat} {L : List KX} (h : RB w g room L) (hn : L.length ≤ 1000000) :
    Calls Try.prog 27 #[.pointer (some ⟨g, 0, none⟩)] w (RetRMost w L) := by
  obtain ⟨A, c, hb, hc1, hc2, hk, hne⟩ := h
  have HB := Lib.hid hb
  have HK := Lib.hid hk
  have c0 : w.cell? ⟨g, 0, none⟩ = some (.slice A L.length c) := hb.cell 0
  have hgl := hb.lt
  clear hb hk hne
  go_enter Try.func27, Try.ntmps27
  go_wp2
  go_loopw [3, 11] (fun n i wr => ∃ (j q : Nat), j ≤ L.length ∧ i = .int .i64 (j : Int) ∧ n = .int .i64 (q : Int) ∧ Hid (Most ((L.take j).map fun x => cnt L x.1) q) ∧ q ≤ 1000000 ∧ Hid (Below w.heap.size w wr)) (fun _ i _ => L.length - (intOf i).toNat)
  case atStart => exact ⟨0, 0, Nat.zero_le _, rfl, rfl, Lib.hid ⟨by simp, .inl rfl⟩, by omega, Lib.hid (Below.refl _ _)⟩
  case round =>
    obtain ⟨j, q, hj, rfl, rfl, HM, hq9, HW⟩ := hrel
    obtain ⟨wo, rfl⟩ : ∃ wo : World, wo = wr := ⟨_, rfl⟩
    have hso := HW.out.size
    by_cases hlt : j < L.length
    · obtain ⟨b, o, e, hbl, hc⟩ := rd_cells (Reads.below HK.out HW.out) (by omega)
      obtain ⟨x0, x1⟩ := hc j hlt
      have i0 : (0 : Int) ≤ (j : Int) := by omega
      have i9 : (j : Int) < (L.length : Int) := by omega
      have HT : Hid (Most ((L.take (j + 1)).map fun x => cnt L x.1) (max q (cnt L (gk L j).1))) := Lib.hid (by rw [gk_snoc hlt, List.map_append]; exact HM.out.snoc)
      have hc9 : cnt L (gk L j).1 ≤ 1000000 := by have := cnt_le L (gk L j).1; omega
      have HCT : Hid (∀ W, Below w.heap.size w W → Calls Try.prog 30 #[.slice A L.length c, .string (gk L j).1] W fun e w' => e = .returned (.int .i64 (cnt L (gk L j).1 : Int)) ∧ Below W.heap.size W w') := Lib.hid fun W hW => count_calls W (gk L j).1 (Reads.below HK.out hW) hW.size hn
      clear hc
      subst e
      generalize gk L j = x at *
      generalize cnt L x.1 = y at *
      go_wp2_with fail
      have hb3 := (Below.refl wo.heap.size wo).alloc (Nat.le_refl _) (.cells #[.string x.1, .int .i64 x.2] 61)
      have HX := Lib.hid (Blk.new wo 61 #[.string x.1, .int .i64 x.2])
      have HW3 := Lib.hid (HW.out.trans (hb3.mono hso))
      have hs3 : wo.heap.size < (wo.alloc (.cells #[.string x.1, .int .i64 x.2] 61)).heap.size := by simp
      clear hb3 x0 x1
      generalize wo.alloc (.cells #[.string x.1, .int .i64 x.2] 61) = w3 at *
      generalize wo.heap.size = gx at *
      have Hkeep : Hid (∀ W, Below w3.heap.size w3 W → W.cell? ⟨gx, 0, none⟩ = some (.string x.1) ∧ W.cell? ⟨g, 0, none⟩ = some (.slice (some ⟨b, o, none⟩) L.length c)) := Lib.hid fun W hW => ⟨(HX.out.below hW hs3).cell 0, (HB.out.below (HW3.out.trans (hW.mono (by omega))) hgl).cell 0⟩
      obtain ⟨x0, g0⟩ := Hkeep.out w3 (Below.refl _ _)
      have HCT3 : Hid (∀ W, Below w3.heap.size w3 W → Calls Try.prog 30 #[.slice (some ⟨b, o, none⟩) L.length c, .string x.1] W fun e w' => e = .returned (.int .i64 (y : Int)) ∧ Below W.heap.size W w') := Lib.hid fun W hW => HCT.out W (HW3.out.trans (hW.mono (by omega)))
      clear HCT
      go_region_held3 (fun w' => w'.cell? ⟨gx, 0, none⟩ = some (.string x.1) ∧ w'.cell? ⟨g, 0, none⟩ = some (.slice (some ⟨b, o, none⟩) L.length c)) (exact Hkeep.out _ (by first | assumption | exact below_drewN_ (Below.refl _ _) 1)) ((go_at_call 30; refine (HCT3.out _ (below_drewN_ (Below.refl _ _) 1)).mono ?_; rintro e w2 ⟨rfl, hb2⟩; have he2 : Below w3.heap.size w3 w2 := (below_drewN_ (Below.refl _ _) 1).trans hb2))
      have HW2 := Lib.hid (HW3.out.trans (he2.mono (by omega)))
      clear Hkeep HCT3 he2 hb2 x0 g0
      go_wp2
      go_roundw
      case rel => exact ⟨j + 1, max q y, by omega, by go_num, by go_num, HT, by omega, HW2⟩
      case measure => simp [intOf]; omega
    · obtain rfl : j = L.length := by omega
      rw [List.take_length] at HM
      go_wp2
      go_ret
      exact ⟨q, rfl, HM.out, hq9, HW.out⟩

theorem Try.infoKr : (Try.prog.info? 61).map (fun i => (i.zero, i.size, i.bytes)) = some (some (.agg #[.string .empty, .int .i64 0]), 2, 24) := by kernel_rfl
def RetRPut (w : World) (g room : Nat) (L X : List KX) (b : Bool) (e : Ending) (w' : World) : Prop := e = .returned (.bool b) ∧ RB w' g room (if b = true then L ++ X else L) ∧ Only g w w'
set_option maxRecDepth 100000 in
set_option maxHeartbeats 1600000 in
theorem rput_calls (w : World) {g room BX cx : Nat} {AX : Option Addr} {L X : List KX} (h : RB w g room L) (hX : Kx w BX AX X) (hBX : BX ≤ w.heap.size) (hL : L.length ≤ 500000) (hn : X.length ≤ 500000) (hr : ∀ k, cnt L k ≤ room) (hroom : room ≤ 2048) :
    Calls Try.prog 26 #[.pointer (some ⟨g, 0, none⟩), .slice AX X.length cx] w (RetRPut w g room L X (fits room L X)) := by
  have HRB := Lib.hid h
  obtain ⟨A, c, hb, hc1, hc2, hk, hne⟩ := h
  have HB := Lib.hid hb
  have HX := Lib.hid hX
  have HRM := Lib.hid hr
  have c0 : w.cell? ⟨g, 0, none⟩ = some (.slice A L.length c) := hb.cell 0
  have hgl := hb.lt
  have n0 := World.new_ne w ⟨g, 0, none⟩ c0
  have ca : (w.alloc (.cells #[] 61)).cell? ⟨g, 0, none⟩ = some (.slice A L.length c) := (World.cell?_alloc_lt _ _ _ hgl).trans c0
  have HKA := Lib.hid (Reads.below hk ((Below.refl w.heap.size w).alloc (Nat.le_refl _) (.cells #[] 61)))
  have HO0 := Lib.hid (World.ownsRow_made w #[] 0 (Nat.le_refl _) (Nat.zero_le _) rfl : (w.alloc (.cells #[] 61)).ownsRow w.heap.size 61 2 _ 0 [])
  clear hb hk hne hX hr
  go_enter Try.func26, Try.ntmps26
  go_wp2_with (at_builtin; go_must (refine wpList_append_sl _ rfl (.tmp 8) (.tmp 12) _ rfl w.heap.size 61 _ 2 24 Try.underlying51 Try.infoKr rfl (by omega) _ _ _ rfl HO0.out w.heap.size A L.length c (kxc L) rfl HKA.out (kxc_one L) (by unfold maxLen; omega) (by omega) (by simp) ?_))
  intro A1 cc1 w1 _ _ _ hbel1 hown1 _ _
  have hb1 : Below w.heap.size w w1 := ((Below.refl w.heap.size w).alloc (Nat.le_refl _) _).trans hbel1
  have HO1 : Hid (w1.ownsRow w.heap.size 61 2 (.slice A1 L.length cc1) L.length (kxc L)) := Lib.hid (by simpa using hown1)
  have HW1 := Lib.hid hb1
  have hs1 := hb1.size
  clear hbel1 hown1 hb1
  go_wp2_with (at_builtin; go_must (refine wpList_append_sl _ rfl (.tmp 13) (.tmp 14) _ rfl w.heap.size 61 _ 2 24 Try.underlying51 Try.infoKr rfl (by omega) _ _ _ rfl HO1.out BX AX X.length cx (kxc X) rfl (HX.out.below (HW1.out.mono hBX)) (kxc_one X) (by unfold maxLen; omega) (by omega) hs1 ?_))
  intro A2 cc2 w2 hcc1 hcc2 hr2 hbel2 hown2 _ _
  have eX : (L ++ X).length = L.length + X.length := List.length_append
  have HNX : Hid (Kx w2 w2.heap.size A2 (L ++ X)) := Lib.hid (by
    show Reads w2 w2.heap.size 2 A2 (L ++ X).length (kxc (L ++ X))
    rw [eX, kxc_app]; exact hr2)
  have HA2 : Hid (∀ a, A2 = some a → w.heap.size ≤ a.block) := Lib.hid fun a ha => (hown2.lt a.block (by rw [ha]; rfl)).1
  have HW2 := Lib.hid (HW1.out.trans hbel2)
  have HE := Lib.hid eX
  have hs2 := HW2.out.size
  have hL2 : (L ++ X).length ≤ 1000000 := by omega
  have HCC : Hid ((L ++ X).length ≤ cc2) := Lib.hid (by omega)
  rw [← HE.out]
  clear hr2 hbel2 hown2 hcc1 eX HO1 HO0 HKA ca n0 c0 HE
  have HFNO : Hid (∀ k, ¬ cnt (L ++ X) k ≤ room → fits room L X = false) := Lib.hid fun k hx => fits_no hx HRM.out
  have HFYES : Hid ((∀ x ∈ X, cnt (L ++ X) x.1 ≤ room) → fits room L X = true) := Lib.hid fun h => decide_eq_true h
  generalize hN : L ++ X = N at *
  have HN := Lib.hid hN
  clear hN
  go_wp2
  go_loopw [18] (fun i wr => ∃ j : Nat, j ≤ X.length ∧ i = .int .i64 (j : Int) ∧ Hid (∀ x ∈ X.take j, cnt N x.1 ≤ room) ∧ Hid (Below w2.heap.size w2 wr)) (fun i _ => X.length - (intOf i).toNat)
  case atStart => exact ⟨0, Nat.zero_le _, rfl, Lib.hid (fun x hx => by simp at hx), Lib.hid (Below.refl _ _)⟩
  case round =>
    obtain ⟨j, hj, rfl, HF, HW⟩ := hrel
    obtain ⟨wo, rfl⟩ : ∃ wo : World, wo = wr := ⟨_, rfl⟩
    have hso := HW.out.size
    by_cases hlt : j < X.length
    · have HWo := Lib.hid (HW2.out.trans (HW.out.mono hs2))
      obtain ⟨b, o, e, hbl, hc⟩ := rd_cells (Reads.below HX.out (HWo.out.mono hBX)) (by omega)
      obtain ⟨x0, x1⟩ := hc j hlt
      have i0 : (0 : Int) ≤ (j : Int) := by omega
      have i9 : (j : Int) < (X.length : Int) := by omega
      have HFT : Hid (cnt N (gk X j).1 ≤ room → ∀ x ∈ X.take (j + 1), cnt N x.1 ≤ room) := Lib.hid fun hx y hy => by
        rw [gk_snoc hlt] at hy
        rcases List.mem_append.1 hy with hy | hy
        · exact HF.out y hy
        · rw [List.mem_singleton] at hy; rw [hy]; exact hx
      have HFF : Hid (¬ cnt N (gk X j).1 ≤ room → fits room L X = false) := Lib.hid fun hx => HFNO.out _ hx
      have hc9 : cnt N (gk X j).1 ≤ 1000000 := by have := cnt_le N (gk X j).1; omega
      have HCT : Hid (∀ W, Below w2.heap.size w2 W → Calls Try.prog 30 #[.slice A2 N.length cc2, .string (gk X j).1] W fun e w' => e = .returned (.int .i64 (cnt N (gk X j).1 : Int)) ∧ Below W.heap.size W w') := Lib.hid fun W hW => count_calls W (gk X j).1 (Reads.below HNX.out hW) hW.size hL2
      clear hc
      rw [e]
      generalize gk X j = x at *
      generalize cnt N x.1 = y at *
      go_wp2_with fail
      have hb3 := (Below.refl wo.heap.size wo).alloc (Nat.le_refl _) (.cells #[.string x.1, .int .i64 x.2] 61)
      have HXB := Lib.hid (Blk.new wo 61 #[.string x.1, .int .i64 x.2])
      have HW3 := Lib.hid (HW.out.trans (hb3.mono hso))
      have HWo3 := Lib.hid (HWo.out.trans (hb3.mono HWo.out.size))
      have hs3 : wo.heap.size < (wo.alloc (.cells #[.string x.1, .int .i64 x.2] 61)).heap.size := by simp
      clear hb3 x0 x1 HW HWo
      generalize wo.alloc (.cells #[.string x.1, .int .i64 x.2] 61) = w3 at *
      generalize wo.heap.size = gx at *
      have hsw3 := HWo3.out.size
      have Hkeep : Hid (∀ W, Below w3.heap.size w3 W → W.cell? ⟨gx, 0, none⟩ = some (.string x.1) ∧ W.cell? ⟨g, 1, none⟩ = some (.int .i64 (room : Int))) := Lib.hid fun W hW => ⟨(HXB.out.below hW hs3).cell 0, (HB.out.below (HWo3.out.trans (hW.mono hsw3)) hgl).cell 1⟩
      obtain ⟨x0, g1⟩ := Hkeep.out w3 (Below.refl _ _)
      have HCT3 : Hid (∀ W, Below w3.heap.size w3 W → Calls Try.prog 30 #[.slice A2 N.length cc2, .string x.1] W fun e w' => e = .returned (.int .i64 (y : Int)) ∧ Below W.heap.size W w') := Lib.hid fun W hW => HCT.out W (HW3.out.trans (hW.mono (by omega)))
      clear HCT
      by_cases hy : y ≤ room
      · have hd : decide ((room : Int) < (y : Int)) = false := dcf (by omega)
        have HF2 := Lib.hid (HFT.out hy)
        clear HFT HFF
        go_region_held3 (fun w' => w'.cell? ⟨gx, 0, none⟩ = some (.string x.1) ∧ w'.cell? ⟨g, 1, none⟩ = some (.int .i64 (room : Int))) (exact Hkeep.out _ (by first | assumption | exact below_drewN_ (Below.refl _ _) 1)) ((go_at_call 30; refine (HCT3.out _ (below_drewN_ (Below.refl _ _) 1)).mono ?_; rintro e w5 ⟨rfl, hb5⟩; have he5 : Below w3.heap.size w3 w5 := (below_drewN_ (Below.refl _ _) 1).trans hb5))
        have HW5 := Lib.hid (HW3.out.trans (he5.mono (by omega)))
        clear Hkeep HCT3 he5 hb5 x0 g1
        go_wp2
        go_roundw
        case rel => exact ⟨j + 1, by omega, by go_num, HF2, HW5⟩
        case measure => simp [intOf]; omega
      · have hd : decide ((room : Int) < (y : Int)) = true := dct (by omega)
        have HF2 := Lib.hid (HFF.out hy)
        clear HFT HFF
        go_region_held3 (fun w' => w'.cell? ⟨gx, 0, none⟩ = some (.string x.1) ∧ w'.cell? ⟨g, 1, none⟩ = some (.int .i64 (room : Int))) (exact Hkeep.out _ (by first | assumption | exact below_drewN_ (Below.refl _ _) 1)) ((go_at_call 30; refine (HCT3.out _ (below_drewN_ (Below.refl _ _) 1)).mono ?_; rintro e w5 ⟨rfl, hb5⟩; have he5 : Below w3.heap.size w3 w5 := (below_drewN_ (Below.refl _ _) 1).trans hb5))
        have HW5 := Lib.hid (HWo3.out.trans (he5.mono hsw3))
        clear Hkeep HCT3 he5 hb5 x0 g1
        go_wp2
        go_ret
        rw [HF2.out]
        exact ⟨rfl, HRB.out.below HW5.out, Only.of_below HW5.out⟩
    · obtain rfl : j = X.length := by omega
      rw [List.take_length] at HF
      have HFY : Hid (fits room L X = true) := Lib.hid (HFYES.out HF.out)
      have HWo := Lib.hid (HW2.out.trans (HW.out.mono hs2))
      have HBo := Lib.hid (HB.out.below HWo.out hgl)
      have g0 : wo.cell? ⟨g, 0, none⟩ = some (.slice A L.length c) := HBo.out.cell 0
      have gf := HBo.out.frozen 0
      go_wp2
      go_ret
      rw [HFY.out]
      refine ⟨rfl, ?_, (Only.of_below HWo.out).setCell (.inl rfl) _⟩
      rw [if_pos rfl, HN.out]
      exact RB.put HBo.out rfl HCC.out hcc2 ((Reads.below HNX.out HW.out).more hso) (fun a ha => by have := HA2.out a ha; omega)
end By
end Go.Proofs.Ytepfggfideianaa
