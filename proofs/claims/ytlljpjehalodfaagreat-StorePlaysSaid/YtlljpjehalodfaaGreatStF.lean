/- Keys that may be; a copy of bytes (chapter 14). -/
import Derived.Test.YtlljpjehalodfaaGreatProg
import Derived.Test.YtlljpjehalodfaaGreatStE
import Derived.Test.YtlljpjehalodfaaGreatShelf
namespace Go.Proofs.YtlljpjehalodfaaGreat
open Go.RowKit Go.Lib Go.Shelf
namespace St

def badR (n : Nat) : Bool := decide (n < 33) || decide (126 < n)
def rightB (s : ByteArray) : Bool := decide (1 ≤ s.size) && (decide (s.size ≤ 40) && !decide (0 ≤ Lib.idxFunc badR true s))
theorem right1_calls (W : World) (x : Nat) : Calls Tryz.prog 57 #[.int .i32 (x : Int)] W fun e w' => e = .returned (.bool (badR x)) ∧ w' = W := by
  by_cases h : x < 33
  · have e : badR x = true := by unfold badR; simp [h]
    have d1 : decide ((x : Int) < 33) = true := dct (by omega)
    rw [e]
    go_enter Tryz.func57, Tryz.ntmps57
    go_wp2
    go_ret
    exact ⟨rfl, rfl⟩
  · have d1 : decide ((x : Int) < 33) = false := dcf (by omega)
    by_cases h2 : 126 < x
    · have e : badR x = true := by unfold badR; simp [h2]
      have d2 : decide ((126 : Int) < (x : Int)) = true := dct (by omega)
      rw [e]
      go_enter Tryz.func57, Tryz.ntmps57
      go_wp2
      go_ret
      exact ⟨rfl, rfl⟩
    · have e : badR x = false := by unfold badR; simp [h, h2]
      have d2 : decide ((126 : Int) < (x : Int)) = false := dcf (by omega)
      rw [e]
      go_enter Tryz.func57, Tryz.ntmps57
      go_wp2
      go_ret
      exact ⟨rfl, rfl⟩
theorem right_runes (w : World) : PredAtRunes Tryz.prog 57 #[] badR w := fun W x _ _ => by
  refine (right1_calls W x).mono ?_
  rintro e w' ⟨rfl, rfl⟩
  exact ⟨rfl, 0, rfl⟩
theorem right_calls (w : World) (s : ByteArray) : Calls Tryz.prog 38 #[.string s] w fun e w' => e = .returned (.bool (rightB s)) ∧ Below w.heap.size w w' := by
  by_cases h1 : 1 ≤ s.size
  · have d1 : decide ((1 : Int) ≤ (s.size : Int)) = true := dct (by omega)
    by_cases h2 : s.size ≤ 40
    · have d2 : decide ((s.size : Int) ≤ 40) = true := dct (by omega)
      have e : rightB s = !decide (0 ≤ Lib.idxFunc badR true s) := by unfold rightB; rw [dct h1, dct h2]; rfl
      have HC : Hid (∀ W, Calls Tryz.prog 56 #[.string s, .func (.func 57) #[] #[]] W fun e w' => e = .returned (.bool (decide (0 ≤ Lib.idxFunc badR true s))) ∧ Below W.heap.size W w') :=
        Lib.hid fun W => Tryz.strings_ContainsFunc_runes 57 #[] (enters_of Tryz.func57 (by kernel_rfl) rfl) badR s W (right_runes W)
      rw [e]
      clear e
      generalize decide (0 ≤ Lib.idxFunc badR true s) = b at *
      go_enter Tryz.func38, Tryz.ntmps38
      go_wp2_with fail
      refine (HC.out _).mono ?_
      rintro e w' ⟨rfl, hb⟩
      go_wp2
      go_ret
      exact ⟨rfl, hb⟩
    · have d2 : decide ((s.size : Int) ≤ 40) = false := dcf (by omega)
      have e : rightB s = false := by unfold rightB; rw [dct h1, dcf h2]; rfl
      rw [e]
      clear e
      go_enter Tryz.func38, Tryz.ntmps38
      go_wp2
      go_ret
      exact ⟨rfl, Below.refl _ _⟩
  · have d1 : decide ((1 : Int) ≤ (s.size : Int)) = false := dcf (by omega)
    have e : rightB s = false := by unfold rightB; rw [dcf h1]; rfl
    rw [e]
    clear e
    go_enter Tryz.func38, Tryz.ntmps38
    go_wp2
    go_ret
    exact ⟨rfl, Below.refl _ _⟩
/-- A copy of bytes. -/
theorem clone_calls (w : World) {gs c : Nat} {A : Option Addr} {d : Bs} (h : Dat w gs A c d) (hd : d.length ≤ 140737488355328) :
    Calls Tryz.prog 41 #[.slice A d.length c] w fun e w' => ∃ A' c', e = .returned (.slice A' d.length c') ∧ w'.ownsRow w.heap.size 5 1 (.slice A' d.length c') d.length (d.map byteV) ∧ Below w.heap.size w w' := by
  cases A with
  | none =>
    have h0 : d = [] := by
      cases d with
      | nil => rfl
      | cons x r => obtain ⟨b, off, e, _⟩ := h.at_ (by simp); cases e
    subst h0
    refine (Tryz.bytes_Clone_nil 0 c w).mono ?_
    rintro e w' ⟨rfl, rfl⟩
    exact ⟨none, 0, rfl, World.ownsRow_nil _ _ _ _, Below.refl _ _⟩
  | some a =>
    refine (Tryz.bytes_Clone_at a d.length c (d.map fun x => (x.toNat : Int)) w (by simp) hd (fun i hi => ?_)).mono ?_
    · obtain ⟨b, off, e, _, hc⟩ := h.at_ (by omega)
      injection e with e
      subst e
      have := hc i (byteV d[i]) (by rw [List.getElem?_map, List.getElem?_eq_getElem hi]; rfl)
      rw [addr_add, this]
      simp [List.getD, List.getElem?_eq_getElem hi, byteV]
    · rintro e w' ⟨v, rfl, hr, -, hb⟩
      have e1 : (d.map fun x => (x.toNat : Int)).map (Value.int .u8) = d.map byteV := by rw [List.map_map]; rfl
      rw [e1] at hr
      obtain ⟨A', c', rfl, _⟩ := own_slice hr
      exact ⟨A', c', rfl, hr, hb⟩
end St
end Go.Proofs.YtlljpjehalodfaaGreat
