/- Records: weights; Check of both (chapter 9). -/
import Derived.Test.YtennddlihcamnaaProg
import Derived.Test.YtennddlihcamnaaRecC
namespace Go.Proofs.Ytennddlihcamnaa
open Go.RowKit

/-- What the first k labels weigh. -/
def wK (l : List Lab) : Nat → Nat
  | 0 => 0
  | k + 1 => wK l k + ((labAt l k).1.size + (labAt l k).2.size)
def weightB (r : Rec) : Nat := 16 + r.text.size + wK r.labs r.labs.length
theorem right_small {l : List Lab} (h : rightB l = true) {k : Nat} (hk : k < l.length) : (labAt l k).1.size + (labAt l k).2.size ≤ 24 := by
  have hp : rightP l := of_decide_eq_true h
  obtain ⟨h1, h2, _⟩ := hp.2 k hk
  have h3 : nameP (labAt l k).1 := of_decide_eq_true h1
  have := h3.2.1
  omega
theorem wK_le {l : List Lab} (h : rightB l = true) : ∀ k, k ≤ l.length → wK l k ≤ 24 * k
  | 0, _ => Nat.le_refl _
  | k + 1, hk => by
    have := wK_le h k (by omega)
    have := right_small h (k := k) (by omega)
    simp only [wK]
    omega
theorem rec_right {r : Rec} (h : recB r = true) : rightB r.labs = true ∧ r.text.size ≤ 200 ∧ r.labs.length ≤ 4 := by
  have hp : recP r := of_decide_eq_true h
  have hr : rightP r.labs := of_decide_eq_true hp.2.2.1
  exact ⟨hp.2.2.1, by rcases hp.2.2.2 with h | h <;> omega, hr.1⟩
theorem weight_le {r : Rec} (h : recB r = true) : weightB r ≤ 312 := by
  obtain ⟨h1, h2, h3⟩ := rec_right h
  have := wK_le h1 r.labs.length (Nat.le_refl _)
  unfold weightB
  omega

set_option maxRecDepth 100000 in
set_option maxHeartbeats 800000 in
theorem weight_calls (w : World) {B : Nat} (r : Rec) (h : r.ok w B) (hB : B ≤ w.heap.size) (hr : recB r = true) :
    Calls Try.prog 33 #[r.agg] w fun e w' => e = .returned (.int .i64 (weightB r : Int)) ∧ Below w.heap.size w w' := by
  obtain ⟨hr1, hr2, hr3⟩ := rec_right hr
  have HL := Lib.hid fun k hk => wK_le hr1 k hk
  have HS := Lib.hid fun k hk => right_small hr1 (k := k) hk
  have HW : Hid (weightB r = 16 + r.text.size + wK r.labs r.labs.length) := Lib.hid rfl
  have hlb := h.labs
  clear hr1 hr h
  unfold Rec.agg
  generalize weightB r = wt at *
  obtain ⟨kind, time, A, c, labs, text, value, null⟩ := r
  simp only at HL HS HW hlb hr2 hr3 ⊢
  go_enter Try.func33, Try.ntmps33
  go_wp2
  go_loopw [3, 13] (fun v i wr => ∃ k n : Nat, k ≤ labs.length ∧ i = .int .i64 (k : Int) ∧ v = .int .i64 (n : Int) ∧ n ≤ 216 + 24 * k ∧ Hid (n = 16 + text.size + wK labs k) ∧ Below (w.heap.size) w wr) (fun _ i _ => labs.length - (intOf i).toNat)
  case atStart => exact ⟨0, 16 + text.size, Nat.zero_le _, rfl, by go_num, by omega, Lib.hid rfl, (Below.refl _ _).alloc (Nat.le_refl _) _⟩
  case round =>
    obtain ⟨k, n, hk, rfl, rfl, hn, Hn, hbel⟩ := hrel
    by_cases hlt : k < labs.length
    · have hsz := hbel.size
      obtain ⟨b, off, rfl, hbB, hcell⟩ := (hlb.below (hbel.mono hB)).cellAt (show 0 < labs.length by omega)
      obtain ⟨c0, c1⟩ := hcell k hlt
      have hsm := HS.out k hlt
      have Hstep : Hid (n + ((labAt labs k).1.size + (labAt labs k).2.size) = 16 + text.size + wK labs (k + 1)) := Lib.hid (by rw [Hn.out]; simp only [wK]; omega)
      clear hcell
      generalize labAt labs k = x at *
      go_wp2
      go_roundw
      case rel => exact ⟨k + 1, n + (x.1.size + x.2.size), by omega, by go_num, by go_num, by omega, Hstep, hbel.alloc hsz _⟩
      case measure => simp [intOf]; omega
    · obtain rfl : k = labs.length := by omega
      have HF : Hid (n = wt) := Lib.hid (by rw [Hn.out, HW.out])
      go_wp2
      go_ret
      exact ⟨by rw [← HF.out]; rfl, hbel⟩
set_option maxRecDepth 100000 in
set_option maxHeartbeats 800000 in
theorem weightR_calls (w : World) {B : Nat} (r : Rec) (h : r.ok w B) (hB : B ≤ w.heap.size) (hr : recB r = true) :
    Calls Try.prog 34 #[r.agg] w fun e w' => e = .returned (.int .i64 (weightB r : Int)) ∧ Below w.heap.size w w' := by
  obtain ⟨hr1, hr2, hr3⟩ := rec_right hr
  have HL := Lib.hid fun k hk => wK_le hr1 k hk
  have HS := Lib.hid fun k hk => right_small hr1 (k := k) hk
  have HW : Hid (weightB r = 16 + r.text.size + wK r.labs r.labs.length) := Lib.hid rfl
  have hlb := h.labs
  clear hr1 hr h
  unfold Rec.agg
  generalize weightB r = wt at *
  obtain ⟨kind, time, A, c, labs, text, value, null⟩ := r
  simp only at HL HS HW hlb hr2 hr3 ⊢
  go_enter Try.func34, Try.ntmps34
  go_wp2
  go_loopw [3, 13] (fun v i wr => ∃ k n : Nat, k ≤ labs.length ∧ i = .int .i64 (k : Int) ∧ v = .int .i64 (n : Int) ∧ n ≤ 216 + 24 * k ∧ Hid (n = 16 + text.size + wK labs k) ∧ Below (w.heap.size) w wr) (fun _ i _ => labs.length - (intOf i).toNat)
  case atStart => exact ⟨0, 16 + text.size, Nat.zero_le _, rfl, by go_num, by omega, Lib.hid rfl, (Below.refl _ _).alloc (Nat.le_refl _) _⟩
  case round =>
    obtain ⟨k, n, hk, rfl, rfl, hn, Hn, hbel⟩ := hrel
    by_cases hlt : k < labs.length
    · have hsz := hbel.size
      obtain ⟨b, off, rfl, hbB, hcell⟩ := (hlb.below (hbel.mono hB)).cellAt (show 0 < labs.length by omega)
      obtain ⟨c0, c1⟩ := hcell k hlt
      have hsm := HS.out k hlt
      have Hstep : Hid (n + ((labAt labs k).1.size + (labAt labs k).2.size) = 16 + text.size + wK labs (k + 1)) := Lib.hid (by rw [Hn.out]; simp only [wK]; omega)
      clear hcell
      generalize labAt labs k = x at *
      go_wp2
      go_roundw
      case rel => exact ⟨k + 1, n + (x.1.size + x.2.size), by omega, by go_num, by go_num, by omega, Hstep, hbel.alloc hsz _⟩
      case measure => simp [intOf]; omega
    · obtain rfl : k = labs.length := by omega
      have HF : Hid (n = wt) := Lib.hid (by rw [Hn.out, HW.out])
      go_wp2
      go_ret
      exact ⟨by rw [← HF.out]; rfl, hbel⟩
end Go.Proofs.Ytennddlihcamnaa
