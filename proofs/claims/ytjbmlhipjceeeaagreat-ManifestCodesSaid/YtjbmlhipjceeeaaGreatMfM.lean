/- has: does a list have a key? Of the document (chapter 13). -/
import Derived.Test.YtjbmlhipjceeeaaGreatProg
import Derived.Test.YtjbmlhipjceeeaaGreatMfL
namespace Go.Proofs.YtjbmlhipjceeeaaGreat.Mf
set_option linter.unusedVariables false
set_option linter.unusedSimpArgs false
open Go.RowKit Go.Proofs.YtjbmlhipjceeeaaGreat

def hasB (l : List ByteArray) (k : ByteArray) : Bool := l.any fun x => x.toList == k.toList
theorem bytes_beq (x y : ByteArray) : (x.toList == y.toList) = decide (x = y) := by
  rw [Bool.eq_iff_iff, beq_iff_eq, decide_eq_true_iff, ByteArray.toList_eq, ByteArray.toList_eq]
  constructor
  · intro h
    cases x; cases y
    congr 1
    exact Array.ext' h
  · rintro rfl; rfl
theorem has_mem {l : List ByteArray} {k : ByteArray} : hasB l k = true ↔ k ∈ l := by
  unfold hasB
  rw [List.any_eq_true]
  constructor
  · rintro ⟨x, hx, h⟩
    rw [bytes_beq, decide_eq_true_iff] at h
    exact h ▸ hx
  · intro h
    exact ⟨k, h, by rw [bytes_beq]; exact dct rfl⟩
set_option maxRecDepth 100000 in
set_option maxHeartbeats 1600000 in
theorem has_calls (w : World) {B c : Nat} {A : Option Addr} {l : List ByteArray} (k : ByteArray) (h : Reads w B 1 A l.length (l.map Value.string)) (hn : l.length ≤ 17592186044416) :
    Calls Tryz.prog 37 #[.slice A l.length c, .string k] w fun e w' => e = .returned (.bool (hasB l k)) ∧ w' = w := by
  have HR := Lib.hid h
  clear h
  go_enter Tryz.func37, Tryz.ntmps37
  go_wp2
  go_loopw [9] (fun i wr => ∃ j : Nat, j ≤ l.length ∧ i = .int .i64 (j : Int) ∧ Hid (∀ i, i < j → ((gt l i).toList == k.toList) = false) ∧ Hid (wr = w)) (fun i _ => l.length - (intOf i).toNat)
  case atStart => exact ⟨0, Nat.zero_le _, rfl, Lib.hid (fun i hi => absurd hi (Nat.not_lt_zero i)), Lib.hid rfl⟩
  case round =>
    obtain ⟨j, hj, rfl, HF, HE⟩ := hrel
    obtain rfl := HE.out
    by_cases hlt : j < l.length
    · have hr := HR.out
      obtain ⟨b, off, rfl, hbB⟩ := row_addr hr (by omega)
      have p0 := strs_cell hr hlt
      have HS := Lib.hid fun hh => any_yes (p := fun x : ByteArray => x.toList == k.toList) hlt hh
      have HN := Lib.hid fun hh => any_step (p := fun x : ByteArray => x.toList == k.toList) HF.out hh
      clear hr HF
      generalize gt l j = x at *
      cases hx : (x.toList == k.toList)
      · have HN2 := Lib.hid (HN.out hx)
        go_wp2
        go_roundw
        case rel => exact ⟨j + 1, by omega, by go_num, HN2, Lib.hid trivial⟩
        case measure => simp [intOf]; omega
      · have HV := Lib.hid (HS.out hx)
        go_wp2
        go_ret
        exact ⟨by unfold hasB; rw [HV.out]; rfl, rfl⟩
    · obtain rfl : j = l.length := by omega
      have HV := Lib.hid (any_no (p := fun x : ByteArray => x.toList == k.toList) HF.out)
      go_wp2
      go_ret
      exact ⟨by unfold hasB; rw [HV.out]; rfl, rfl⟩
end Go.Proofs.YtjbmlhipjceeeaaGreat.Mf
