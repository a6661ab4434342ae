/- Comparing (cmp.Compare, cmp.Or) as the merge layer uses it. -/
import Derived.Test.YtennddlihcamnaaProg
import Derived.Test.YtennddlihcamnaaMem
import Derived.Test.YtennddlihcamnaaSoA
import Derived.Sort.Walk0
namespace Go.Proofs.Ytennddlihcamnaa
set_option linter.unusedVariables false
set_option linter.unusedSimpArgs false
open Go.RowKit

def cmpI (a b : Int) : Int := if a < b then -1 else if b < a then 1 else 0
def lessS (a b : ByteArray) : Bool := Op.bytesLess a.toList b.toList
def cmpS (a b : ByteArray) : Int := if lessS a b = true then -1 else if lessS b a = true then 1 else 0
theorem nanI (x : Int) (w : World) : Calls Try.prog 55 #[.int .i64 x] w fun e w' => e = .returned (.bool false) ∧ w = w' := by
  have hx : (x != x) = false := nef rfl
  go_enter Try.func55, Try.ntmps55
  go_wp2
  go_ret
  exact ⟨rfl, rfl⟩
theorem nanS (x : ByteArray) (w : World) : Calls Try.prog 64 #[.string x] w fun e w' => e = .returned (.bool false) ∧ w = w' := by
  have hx : (x.toList != x.toList) = false := by simp
  go_enter Try.func64, Try.ntmps64
  go_wp2
  go_ret
  exact ⟨rfl, rfl⟩
set_option maxRecDepth 100000 in
theorem cmpI_calls (x y : Int) (w : World) : Calls Try.prog 39 #[.int .i64 x, .int .i64 y] w fun e w' => e = .returned (.int .i64 (cmpI x y)) ∧ w = w' := by
  have hcase : (x < y ∧ cmpI x y = -1) ∨ (¬ x < y ∧ y < x ∧ cmpI x y = 1) ∨ (¬ x < y ∧ ¬ y < x ∧ cmpI x y = 0) := by
    unfold cmpI
    by_cases h1 : x < y
    · exact .inl ⟨h1, by rw [if_pos h1]⟩
    · by_cases h2 : y < x
      · exact .inr (.inl ⟨h1, h2, by rw [if_neg h1, if_pos h2]⟩)
      · exact .inr (.inr ⟨h1, h2, by rw [if_neg h1, if_neg h2]⟩)
  rcases hcase with ⟨h1, h⟩ | ⟨h1, h2, h⟩ | ⟨h1, h2, h⟩
  all_goals
    have HX := Lib.hid h
    clear h
    go_enter Try.func39, Try.ntmps39
    go_wp2_with fail
    refine (nanI x w).mono ?_
    rintro e w1 ⟨rfl, rfl⟩
    go_wp2_with fail
    refine (nanI y w).mono ?_
    rintro e w1 ⟨rfl, rfl⟩
    go_wp2
    go_ret
    exact ⟨by rw [HX.out]; rfl, rfl⟩
theorem less_tri {a b : List UInt8} (h1 : Op.bytesLess a b = false) (h2 : Op.bytesLess b a = false) : a = b := by
  rw [bytesLess_eq, decide_eq_false_iff_not] at h1 h2
  exact List.le_antisymm (List.not_lt.1 h2) (List.not_lt.1 h1)
theorem less_ne {a b : List UInt8} (h : Op.bytesLess b a = true) : (a == b) = false := by
  rw [bytesLess_eq, decide_eq_true_iff] at h
  rw [beq_eq_false_iff_ne]
  rintro rfl
  exact List.lt_irrefl _ h
set_option maxRecDepth 100000 in
theorem cmpS_calls (x y : ByteArray) (w : World) : Calls Try.prog 46 #[.string x, .string y] w fun e w' => e = .returned (.int .i64 (cmpS x y)) ∧ w = w' := by
  have hcase : (Op.bytesLess x.toList y.toList = true ∧ cmpS x y = -1) ∨ (Op.bytesLess x.toList y.toList = false ∧ (x.toList == y.toList) = false ∧ cmpS x y = 1) ∨ (Op.bytesLess x.toList y.toList = false ∧ (x.toList == y.toList) = true ∧ cmpS x y = 0) := by
    unfold cmpS lessS
    cases h1 : Op.bytesLess x.toList y.toList
    · cases h2 : Op.bytesLess y.toList x.toList
      · exact .inr (.inr ⟨rfl, by rw [less_tri h1 h2]; exact beq_self_eq_true _, by simp⟩)
      · exact .inr (.inl ⟨rfl, less_ne h2, by simp⟩)
    · exact .inl ⟨rfl, by simp⟩
  rcases hcase with ⟨h1, h⟩ | ⟨h1, h2, h⟩ | ⟨h1, h2, h⟩
  all_goals
    have HX := Lib.hid h
    clear h
    go_enter Try.func46, Try.ntmps46
    go_wp2_with fail
    refine (nanS x w).mono ?_
    rintro e w1 ⟨rfl, rfl⟩
    go_wp2_with fail
    refine (nanS y w).mono ?_
    rintro e w1 ⟨rfl, rfl⟩
    go_wp2
    go_ret
    exact ⟨by rw [HX.out]; rfl, rfl⟩

/-- The first that isn't nought. -/
def orI : List Int → Int
  | [] => 0
  | z :: r => if z = 0 then orI r else z
theorem orI_skip {zs : List Int} {k : Nat} (hk : k < zs.length) (h : zs.getD k 0 = 0) : orI (zs.drop k) = orI (zs.drop (k + 1)) := by
  rw [List.drop_eq_getElem_cons hk]
  have e : zs[k] = 0 := by rw [← h]; simp [List.getD, List.getElem?_eq_getElem hk]
  rw [orI, if_pos e]
theorem orI_hit {zs : List Int} {k : Nat} (hk : k < zs.length) (h : zs.getD k 0 ≠ 0) : orI (zs.drop k) = zs.getD k 0 := by
  rw [List.drop_eq_getElem_cons hk]
  have e : zs[k] = zs.getD k 0 := by simp [List.getD, List.getElem?_eq_getElem hk]
  rw [orI, e, if_neg h]
set_option maxRecDepth 100000 in
theorem orI_calls (w : World) {B c : Nat} {A : Option Addr} (zs : List Int) (h : Reads w B 1 A zs.length (zs.map (.int .i64))) (hn : zs.length ≤ 4398046511104) :
    Calls Try.prog 38 #[.slice A zs.length c] w fun e w' => e = .returned (.int .i64 (orI zs)) ∧ w = w' := by
  go_enter Try.func38, Try.ntmps38
  go_wp2
  go_loop [8] (fun i => ∃ k : Nat, k ≤ zs.length ∧ i = .int .i64 (k : Int) ∧ Hid (orI zs = orI (zs.drop k))) (fun i => zs.length - (intOf i).toNat)
  case atStart => exact ⟨0, Nat.zero_le _, rfl, Lib.hid rfl⟩
  case round =>
    obtain ⟨k, hk, rfl, HO⟩ := hrel
    by_cases hlt : k < zs.length
    · obtain ⟨b, off, rfl, hbB, hcell⟩ := h.2 (by omega)
      have c0 := hcell k (.int .i64 (zs.getD k 0)) (by rw [List.getElem?_map, List.getElem?_eq_getElem hlt]; simp [List.getD, List.getElem?_eq_getElem hlt])
      have Hs := Lib.hid (orI_skip (zs := zs) hlt)
      have Hh := Lib.hid (orI_hit (zs := zs) hlt)
      clear hcell
      generalize zs.getD k 0 = z at *
      by_cases hz : z = 0
      · have HO2 : Hid (orI zs = orI (zs.drop (k + 1))) := Lib.hid (HO.out.trans (Hs.out hz))
        subst hz
        go_wp2
        go_round
        case rel => exact ⟨k + 1, by omega, by go_num, HO2⟩
        case measure => simp [intOf]; omega
      · have HV : Hid (orI zs = z) := Lib.hid (HO.out.trans (Hh.out hz))
        have hz2 := net hz
        clear hz
        go_wp2
        go_ret
        exact ⟨by rw [HV.out]; rfl, rfl⟩
    · obtain rfl : k = zs.length := by omega
      have HV : Hid (orI zs = 0) := Lib.hid (HO.out.trans (by rw [List.drop_length]; rfl))
      go_wp2
      go_ret
      exact ⟨by rw [HV.out]; rfl, rfl⟩
end Go.Proofs.Ytennddlihcamnaa
