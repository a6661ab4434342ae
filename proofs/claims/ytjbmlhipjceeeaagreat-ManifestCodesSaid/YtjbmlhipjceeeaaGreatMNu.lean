/- Plain: a number's bytes, and what bytes say (chapter 1). No program in sight. Contracts of the package nums (chapter 1) and of its reference: what each computes. Contracts: the reference's PutU, Same, Twin; Zig and Zag of both. Plain laws of a number's bytes (chapter 1). -/
import Derived.Test.YtjbmlhipjceeeaaGreatProg
import Derived.Test.YtjbmlhipjceeeaaGreatMem
import Derived.Test.YtjbmlhipjceeeaaGreatBits
import Derived.WalkKit

namespace Go.Proofs.YtjbmlhipjceeeaaGreat.Nu
set_option linter.unusedVariables false
set_option linter.unusedSimpArgs false

/-- The bytes of a number, by division. -/
def putU (n : Nat) : List UInt8 := if h : n < 128 then [UInt8.ofNat n] else UInt8.ofNat (n % 128 + 128) :: putU (n / 128)
termination_by n
decreasing_by omega

theorem putU_lt {n : Nat} (h : n < 128) : putU n = [UInt8.ofNat n] := by rw [putU, dif_pos h]
theorem putU_ge {n : Nat} (h : ¬ n < 128) : putU n = UInt8.ofNat (n % 128 + 128) :: putU (n / 128) := by rw [putU, dif_neg h]
theorem putU_pos (n : Nat) : 1 ≤ (putU n).length := by
  by_cases h : n < 128
  · rw [putU_lt h]; simp
  · rw [putU_ge h]; simp
theorem putU_len (k : Nat) : ∀ n, n < 128 ^ (k + 1) → (putU n).length ≤ k + 1 := by
  induction k with
  | zero => intro n h; rw [putU_lt (by omega)]; simp
  | succ k ih =>
    intro n h
    by_cases hn : n < 128
    · rw [putU_lt hn]; simp
    · rw [putU_ge hn, List.length_cons]
      have := ih (n / 128) (by rw [Nat.pow_succ] at h; omega)
      omega

theorem putU_step {n m : Nat} {pre : List UInt8} (h : pre ++ putU m = putU n) (hm : ¬ m < 128) : (pre ++ [UInt8.ofNat (m % 128 + 128)]) ++ putU (m / 128) = putU n := by
  rw [putU_ge hm] at h; rw [← h]; simp
theorem putU_end {n m : Nat} {pre : List UInt8} (h : pre ++ putU m = putU n) (hm : m < 128) : pre ++ [UInt8.ofNat m] = putU n := by
  rw [putU_lt hm] at h; exact h
theorem putU_room {n m : Nat} {pre : List UInt8} (h : pre ++ putU m = putU n) (hn : (putU n).length ≤ 10) : pre.length + 1 ≤ 10 := by
  have := congrArg List.length h
  have := putU_pos m
  simp at *; omega

/-- The bytes of 128 and more that stand ahead, f at the most. -/
def headsF : Nat → List UInt8 → Nat
  | 0, _ => 0
  | _ + 1, [] => 0
  | f + 1, x :: r => if 128 ≤ x.toNat then headsF f r + 1 else 0
/-- Little-endian, base 128. -/
def lev : List UInt8 → Nat
  | [] => 0
  | x :: r => x.toNat % 128 + 128 * lev r
/-- What stands at the head of r: the number, how many bytes, the error. -/
def readAt (r : List UInt8) : Nat × Nat × Nat :=
  if r.length ≤ headsF 9 r then (0, 0, 3)
  else if (headsF 9 r = 9 ∧ 1 < (r.getD (headsF 9 r) 0).toNat) ∨ (0 < headsF 9 r ∧ (r.getD (headsF 9 r) 0).toNat = 0) then (0, 0, 4)
  else (lev (r.take (headsF 9 r + 1)), headsF 9 r + 1, 0)
def readU (l : List UInt8) (at_ : Int) : Nat × Nat × Nat :=
  if at_ < 0 ∨ (l.length : Int) ≤ at_ then (0, 0, 3) else readAt (l.drop at_.toNat)

theorem headsF_le (f : Nat) : ∀ r, headsF f r ≤ f := by
  induction f with
  | zero => intro r; simp [headsF]
  | succ f ih =>
    intro r
    cases r with
    | nil => simp [headsF]
    | cons x r => simp only [headsF]; have := ih r; split <;> omega
theorem headsF_len (f : Nat) : ∀ r, headsF f r ≤ r.length := by
  induction f with
  | zero => intro r; simp [headsF]
  | succ f ih =>
    intro r
    cases r with
    | nil => simp [headsF]
    | cons x r => simp only [headsF, List.length_cons]; have := ih r; split <;> omega
theorem headsF_eq (f : Nat) : ∀ (r : List UInt8) (k : Nat), k ≤ f → k ≤ r.length → (∀ j, j < k → 128 ≤ (r.getD j 0).toNat) →
    (k = f ∨ k = r.length ∨ (r.getD k 0).toNat < 128) → headsF f r = k := by
  induction f with
  | zero => intro r k h1 _ _ _; simp [headsF]; omega
  | succ f ih =>
    intro r k h1 h2 h3 h4
    cases r with
    | nil => simp at h2; subst h2; simp [headsF]
    | cons x r =>
      cases k with
      | zero =>
        have : x.toNat < 128 := by rcases h4 with h | h | h <;> simp at h; exact h
        simp only [headsF]; rw [if_neg (by omega)]
      | succ k =>
        have h0 := h3 0 (by omega)
        simp at h0
        simp only [headsF]; rw [if_pos h0]
        rw [ih r k (by omega) (by simpa using h2) (fun j hj => by have := h3 (j + 1) (by omega); simpa using this) (by rcases h4 with h | h | h; exact .inl (by omega); exact .inr (.inl (by simpa using h)); exact .inr (.inr (by simpa using h)))]
theorem headsF_big (f : Nat) : ∀ (r : List UInt8) (j : Nat), j < headsF f r → 128 ≤ (r.getD j 0).toNat := by
  induction f with
  | zero => intro r j h; simp [headsF] at h
  | succ f ih =>
    intro r j h
    cases r with
    | nil => simp [headsF] at h
    | cons x r =>
      simp only [headsF] at h
      split at h
      · cases j with
        | zero => simpa
        | succ j => simpa using ih r j (by omega)
      · omega

theorem lev_snoc : ∀ (r : List UInt8) (x : UInt8), lev (r ++ [x]) = lev r + 128 ^ r.length * (x.toNat % 128)
  | [], x => by simp [lev]
  | y :: r, x => by
    simp only [List.cons_append, lev, lev_snoc r x, List.length_cons, Nat.pow_succ]
    rw [Nat.mul_add, ← Nat.mul_assoc, Nat.mul_comm 128 (128 ^ r.length), Nat.add_assoc]
theorem take_snoc {α : Type} (r : List α) (k : Nat) (h : k < r.length) : r.take (k + 1) = r.take k ++ [r[k]] := List.take_succ_eq_append_getElem h
theorem lev_take (r : List UInt8) (k : Nat) (h : k < r.length) : lev (r.take (k + 1)) = lev (r.take k) + 128 ^ k * (r[k].toNat % 128) := by
  rw [take_snoc r k h, lev_snoc, List.length_take, Nat.min_eq_left (by omega)]
theorem lev_lt : ∀ r : List UInt8, lev r < 128 ^ r.length
  | [] => by simp [lev]
  | x :: r => by
    have := lev_lt r
    simp only [lev, List.length_cons, Nat.pow_succ]
    omega
theorem lev_take_lt (r : List UInt8) (k : Nat) : lev (r.take k) < 128 ^ k := by
  have h1 := lev_lt (r.take k)
  have h2 : (r.take k).length ≤ k := List.length_take_le _ _
  exact Nat.lt_of_lt_of_le h1 (Nat.pow_le_pow_right (by omega) h2)

theorem readAt_short {r : List UInt8} (hl : r.length ≤ 9) (h : ∀ j, j < r.length → 128 ≤ (r.getD j 0).toNat) : readAt r = (0, 0, 3) := by
  have := headsF_eq 9 r r.length hl (Nat.le_refl _) h (.inr (.inl rfl))
  unfold readAt; rw [this, if_pos (Nat.le_refl _)]
theorem readAt_form {r : List UInt8} {k : Nat} (hk : k ≤ 9) (hl : k < r.length) (h : ∀ j, j < k → 128 ≤ (r.getD j 0).toNat) (hx : (k = 9 ∧ 1 < r[k].toNat) ∨ (r[k].toNat = 0 ∧ 0 < k)) : readAt r = (0, 0, 4) := by
  have hg : r.getD k 0 = r[k] := by simp [List.getD, List.getElem?_eq_getElem hl]
  have := headsF_eq 9 r k hk (by omega) h (by rcases hx with h | h; exact .inl h.1; exact .inr (.inr (by rw [hg]; omega)))
  unfold readAt; rw [this, if_neg (by omega), if_pos]
  rw [hg]
  rcases hx with h | h
  · exact .inl h
  · exact .inr ⟨h.2, h.1⟩
theorem readAt_ok {r : List UInt8} {k : Nat} (hk : k ≤ 9) (hl : k < r.length) (h : ∀ j, j < k → 128 ≤ (r.getD j 0).toNat) (hx : ¬ ((k = 9 ∧ 1 < r[k].toNat) ∨ (r[k].toNat = 0 ∧ 0 < k))) (hx2 : r[k].toNat < 128) :
    readAt r = (lev (r.take (k + 1)), k + 1, 0) := by
  have hg : r.getD k 0 = r[k] := by simp [List.getD, List.getElem?_eq_getElem hl]
  have := headsF_eq 9 r k hk (by omega) h (.inr (.inr (by rw [hg]; omega)))
  unfold readAt; rw [this, if_neg (by omega), if_neg]
  rw [hg]
  intro h; exact hx (by rcases h with h | h; exact .inl h; exact .inr ⟨h.2, h.1⟩)

theorem readAt_h1 {r : List UInt8} {j : Nat} (h : headsF 9 r = j) (hl : r.length ≤ j) : readAt r = (0, 0, 3) := by
  unfold readAt; rw [h, if_pos hl]
theorem readAt_h2 {r : List UInt8} {j : Nat} (h : headsF 9 r = j) (hl : j < r.length) (hx : (j = 9 ∧ 1 < r[j].toNat) ∨ (0 < j ∧ r[j].toNat = 0)) : readAt r = (0, 0, 4) := by
  have hg : r.getD j 0 = r[j] := by simp [List.getD, List.getElem?_eq_getElem hl]
  unfold readAt; rw [h, if_neg (by omega), hg, if_pos hx]
theorem readAt_h3 {r : List UInt8} {j : Nat} (h : headsF 9 r = j) (hl : j < r.length) (hx : ¬ ((j = 9 ∧ 1 < r[j].toNat) ∨ (0 < j ∧ r[j].toNat = 0))) : readAt r = (lev (r.take (j + 1)), j + 1, 0) := by
  have hg : r.getD j 0 = r[j] := by simp [List.getD, List.getElem?_eq_getElem hl]
  unfold readAt; rw [h, if_neg (by omega), hg, if_neg hx]
theorem lev_drop_le : ∀ (l : List UInt8) (t : Nat), lev (l.drop t) ≤ lev l
  | [], t => by simp [lev]
  | x :: r, 0 => by simp
  | x :: r, t + 1 => by
    have := lev_drop_le r t
    simp only [List.drop_succ_cons, lev]
    omega
theorem lev_drop (l : List UInt8) (t : Nat) (h : t < l.length) : lev (l.drop t) = l[t].toNat % 128 + 128 * lev (l.drop (t + 1)) := by
  rw [List.drop_eq_getElem_cons h, lev]
theorem lev_back {r : List UInt8} {j t : Nat} (ht : t < j + 1) (hl : j < r.length) : lev ((r.take (j + 1)).drop t) = (r[t]'(by omega)).toNat % 128 + 128 * lev ((r.take (j + 1)).drop (t + 1)) := by
  rw [lev_drop _ t (by rw [List.length_take]; omega), List.getElem_take]
theorem lev_max {r : List UInt8} {k : Nat} (hk : k ≤ 9) (hl : k < r.length) (hx : ¬ (k = 9 ∧ 1 < r[k].toNat)) : lev (r.take (k + 1)) ≤ 18446744073709551615 := by
  rw [lev_take r k hl]
  have h0 := lev_take_lt r k
  rcases Nat.lt_or_ge k 9 with h | h
  · have h1 : 128 ^ k ≤ 128 ^ 8 := Nat.pow_le_pow_right (by omega) (by omega)
    have h2 : 128 ^ k * (r[k].toNat % 128) ≤ 128 ^ 8 * 127 := Nat.mul_le_mul h1 (by omega)
    omega
  · obtain rfl : k = 9 := by omega
    have : r[9].toNat % 128 ≤ 1 := by omega
    have h2 : 128 ^ 9 * (r[9].toNat % 128) ≤ 128 ^ 9 * 1 := Nat.mul_le_mul_left _ this
    omega
theorem readAt_max (r : List UInt8) : (readAt r).1 ≤ 18446744073709551615 ∧ (readAt r).2.1 ≤ 10 ∧ (readAt r).2.1 ≤ r.length := by
  have h9 := headsF_le 9 r
  unfold readAt
  split
  · simp
  · split
    · simp
    · rename_i h1 h2
      refine ⟨lev_max h9 (by omega) (fun h => h2 (.inl ⟨h.1, ?_⟩)), by simp only; omega, by simp only; omega⟩
      have := h.2
      simpa [List.getD, List.getElem?_eq_getElem (show headsF 9 r < r.length by omega)] using this
theorem heads_step {r : List UInt8} {j : Nat} (h : ∀ t, t < j → 128 ≤ (r.getD t 0).toNat) (hj : j < r.length) (hx : 128 ≤ r[j].toNat) : ∀ t, t < j + 1 → 128 ≤ (r.getD t 0).toNat := by
  intro t ht
  rcases Nat.lt_or_ge t j with h1 | h1
  · exact h t h1
  · obtain rfl : t = j := by omega
    simpa [List.getD, List.getElem?_eq_getElem hj] using hx
/-- Where the heads end ahead of the ninth and of the end, a small byte stands. -/
theorem headsF_stop (f : Nat) : ∀ r : List UInt8, headsF f r < f → headsF f r < r.length → (r.getD (headsF f r) 0).toNat < 128 := by
  induction f with
  | zero => intro r h _; omega
  | succ f ih =>
    intro r h1 h2
    cases r with
    | nil => simp at h2
    | cons x r =>
      simp only [headsF] at h1 h2 ⊢
      split
      · rename_i hx
        rw [if_pos hx] at h1 h2
        simpa using ih r (by omega) (by simpa using h2)
      · simp; omega
end Go.Proofs.YtjbmlhipjceeeaaGreat.Nu

namespace Go.Proofs.YtjbmlhipjceeeaaGreat.Nu
set_option linter.unusedVariables false
set_option linter.unusedSimpArgs false
open Go.RowKit

theorem Tryz.infoU8 : (Tryz.prog.info? 5).map (fun i => (i.zero, i.size, i.bytes)) = some (some (.int .u8 0), 1, 1) := by kernel_rfl

set_option maxRecDepth 100000 in
set_option maxHeartbeats 400000 in
theorem putU_calls (n : Nat) (w : World) (hn : (putU n).length ≤ 10) :
    Calls Tryz.prog 40 #[.int .u64 (n : Int)] w (RetBytes 5 w (putU n)) := by
  go_enter Tryz.func40, Tryz.ntmps40
  go_wp2
  go_loopw [0, 3] (fun x v wr => ∃ (m : Nat) (pre : List UInt8), x = .int .u64 (m : Int) ∧ wr.ownsRow w.heap.size 5 1 v pre.length (pre.map byteV) ∧ pre ++ putU m = putU n ∧ Below w.heap.size w wr) (fun x _ _ => (intOf x).toNat)
  case atStart => exact ⟨n, [], rfl, World.ownsRow_nil _ _ _ _, rfl, Below.refl _ _⟩
  case round =>
    obtain ⟨m, pre, rfl, hown, hpre, hbel⟩ := hrel
    have Hr := putU_room hpre hn
    have Hp := Lib.hid hpre; clear hpre
    by_cases hlt : m < 128
    · go_wp2_with (at_builtin; go_must (refine wpList_push _ rfl (.tmp 14) (.tmp 17) _ rfl w.heap.size 5 _ 1 Tryz.underlying46 Tryz.infoU8 rfl _ _ _ _ _ rfl rfl hown rfl (by unfold maxLen; omega) (by omega) hbel.size ?_))
      intro v' w1 hown' hbel' _ _
      have hown2 := own_snoc hown' (u8_nat (by omega))
      rw [putU_end Hp.out hlt] at hown2
      go_wp2
      go_ret
      exact ⟨_, rfl, hown2, hbel.trans hbel'⟩
    · go_wp2_with (at_builtin; go_must (refine wpList_push _ rfl (.tmp 6) (.tmp 10) _ rfl w.heap.size 5 _ 1 Tryz.underlying46 Tryz.infoU8 rfl _ _ _ _ _ rfl rfl hown rfl (by unfold maxLen; omega) (by omega) hbel.size ?_))
      intro v' w1 hown' hbel' _ _
      have hown2 := own_snoc hown' (or128 m)
      clear hown' hown
      go_wp2
      go_roundw
      case rel => exact ⟨m / 128, _, by go_num, hown2, putU_step Hp.out hlt, hbel.trans hbel'⟩
      case measure => simp [intOf]; omega
end Go.Proofs.YtjbmlhipjceeeaaGreat.Nu

namespace Go.Proofs.YtjbmlhipjceeeaaGreat.Nu
set_option linter.unusedVariables false
set_option linter.unusedSimpArgs false
open Go.RowKit

set_option maxRecDepth 100000 in
set_option maxHeartbeats 400000 in
theorem putURef_calls (n : Nat) (w : World) (hn : (putU n).length ≤ 10) (hn2 : n ≤ 18446744073709551615) :
    Calls Tryz.prog 93 #[.int .u64 (n : Int)] w (RetBytes 5 w (putU n)) := by
  go_enter Tryz.func93, Tryz.ntmps93
  go_wp2
  go_loopw [0, 3] (fun x v wr => ∃ (m : Nat) (pre : List UInt8), m ≤ n ∧ x = .int .u64 (m : Int) ∧ wr.ownsRow w.heap.size 5 1 v pre.length (pre.map byteV) ∧ pre ++ putU m = putU n ∧ Below w.heap.size w wr) (fun x _ _ => (intOf x).toNat)
  case atStart => exact ⟨n, [], Nat.le_refl _, rfl, World.ownsRow_made w #[] 0 (Nat.le_refl _) (Nat.zero_le _) rfl, rfl, (Below.refl _ _).alloc (Nat.le_refl _) _⟩
  case round =>
    obtain ⟨m, pre, hm, rfl, hown, hpre, hbel⟩ := hrel
    have hm2 : m ≤ 18446744073709551615 := by omega
    have hm3 : m ≤ n := hm
    clear hm
    have Hr := putU_room hpre hn
    have Hp := Lib.hid hpre; clear hpre
    by_cases hlt : m < 128
    · go_wp2_with (at_builtin; go_must (refine wpList_push _ rfl (.tmp 17) (.tmp 20) _ rfl w.heap.size 5 _ 1 Tryz.underlying46 Tryz.infoU8 rfl _ _ _ _ _ rfl rfl hown rfl (by unfold maxLen; omega) (by omega) hbel.size ?_))
      intro v' w1 hown' hbel' _ _
      have hown2 := own_snoc hown' (u8_nat (by omega))
      rw [putU_end Hp.out hlt] at hown2
      go_wp2
      go_ret
      exact ⟨_, rfl, hown2, hbel.trans hbel'⟩
    · go_wp2_with (at_builtin; go_must (refine wpList_push _ rfl (.tmp 8) (.tmp 13) _ rfl w.heap.size 5 _ 1 Tryz.underlying46 Tryz.infoU8 rfl _ _ _ _ _ rfl rfl hown rfl (by unfold maxLen; omega) (by omega) hbel.size ?_))
      intro v' w1 hown' hbel' _ _
      have hown2 := own_snoc (b := UInt8.ofNat (m % 128 + 128)) hown' (by rw [UInt8.toNat_ofNat']; omega)
      clear hown' hown
      go_wp2
      go_roundw
      case rel => exact ⟨m / 128, _, by omega, by go_num, hown2, putU_step Hp.out hlt, hbel.trans hbel'⟩
      case measure => simp [intOf]; omega

theorem same_calls (w : World) {B1 B2 : Nat} {A1 A2 : Option Addr} {n1 n2 c1 c2 : Nat} {l1 l2 : List UInt8} (h1 : Bytes w B1 A1 n1 l1) (h2 : Bytes w B2 A2 n2 l2) :
    Calls Tryz.prog 18 #[.slice A1 n1 c1, .slice A2 n2 c2] w fun e w' => e = .returned (.bool (l1 == l2)) ∧ w = w' := by
  have k1 := h1.conv Tryz.prog c1 46 5 9 Tryz.underlying46 Tryz.underlying5 Tryz.underlying9
  have k2 := h2.conv Tryz.prog c2 46 5 9 Tryz.underlying46 Tryz.underlying5 Tryz.underlying9
  clear h1 h2
  go_enter Tryz.func18, Tryz.ntmps18
  go_wp2
  go_ret
  exact ⟨rfl, rfl⟩

theorem twin_calls (w : World) {B : Nat} {A : Option Addr} {n c : Nat} {l : List UInt8} (h : Bytes w B A n l) (hB : B ≤ w.heap.size) (hn : n ≤ 140737488355328) :
    Calls Tryz.prog 20 #[.slice A n c] w (RetBytes 5 w l) := by
  go_enter Tryz.func20, Tryz.ntmps20
  go_wp2_with (at_builtin; go_must (refine wpList_append_any _ rfl (.tmp 3) (.tmp 4) _ rfl w.heap.size 5 _ 1 1 Tryz.underlying46 Tryz.infoU8 rfl (by omega) _ _ _ rfl (World.ownsRow_made w #[] 0 (Nat.le_refl _) (Nat.zero_le _) rfl) B A n c (l.map byteV) rfl (h.to ((Below.refl B w).alloc hB _) (Nat.le_refl _)).2 (byteV_one l) (by unfold maxLen; omega) (by omega) (by simp) ?_))
  intro v' w1 hown hbel _ _
  have hown2 : w1.ownsRow w.heap.size 5 1 v' l.length (l.map byteV) := by have hl := h.1; subst hl; simpa using hown
  go_wp2
  go_ret
  exact ⟨_, rfl, hown2, ((Below.refl _ _).alloc (Nat.le_refl _) _).trans hbel⟩

end Go.Proofs.YtjbmlhipjceeeaaGreat.Nu

namespace Go.Proofs.YtjbmlhipjceeeaaGreat.Nu
set_option linter.unusedVariables false
set_option linter.unusedSimpArgs false

theorem putU_len10 {n : Nat} (h : n ≤ 18446744073709551615) : (putU n).length ≤ 10 := putU_len 9 n (by omega)

theorem putU_mono (k : Nat) : ∀ n m : Nat, n ≤ m → m ≤ k → (putU n).length ≤ (putU m).length := by
  induction k using Nat.strongRecOn with
  | ind k ih =>
    intro n m h hm
    by_cases hn : n < 128
    · rw [putU_lt hn]; exact putU_pos m
    · rw [putU_ge hn, putU_ge (by omega : ¬ m < 128)]
      simp only [List.length_cons]
      have := ih (m / 128) (by omega) (n / 128) (m / 128) (by omega) (Nat.le_refl _)
      omega

theorem u8_inj {a b : Nat} (ha : a < 256) (hb : b < 256) (h : UInt8.ofNat a = UInt8.ofNat b) : a = b := by
  have := congrArg UInt8.toNat h
  rw [UInt8.toNat_ofNat', UInt8.toNat_ofNat'] at this
  omega

theorem putU_apart (k : Nat) : ∀ n m : Nat, n ≤ k → putU n <+: putU m → n = m := by
  induction k using Nat.strongRecOn with
  | ind k ih =>
    intro n m hk h
    by_cases hn : n < 128
    · by_cases hm : m < 128
      · rw [putU_lt hn, putU_lt hm] at h
        simp only [List.cons_prefix_cons] at h
        exact u8_inj (by omega) (by omega) h.1
      · rw [putU_lt hn, putU_ge hm] at h
        simp only [List.cons_prefix_cons] at h
        have := u8_inj (by omega) (by omega) h.1
        omega
    · by_cases hm : m < 128
      · rw [putU_ge hn, putU_lt hm] at h
        simp only [List.cons_prefix_cons] at h
        have := u8_inj (by omega) (by omega) h.1
        omega
      · rw [putU_ge hn, putU_ge hm] at h
        simp only [List.cons_prefix_cons] at h
        have h1 := u8_inj (by omega) (by omega) h.1
        have h2 := ih (n / 128) (by omega) (n / 128) (m / 128) (Nat.le_refl _) h.2
        omega

/-- A number's bytes: all but the last are 128 and more, the last is less, and no nought behind others. -/
theorem putU_form (k : Nat) : ∀ n, n ≤ k → ∃ (pre : List UInt8) (x : UInt8), putU n = pre ++ [x] ∧ (∀ b ∈ pre, 128 ≤ b.toNat) ∧ x.toNat < 128 ∧ (n ≠ 0 → x.toNat ≠ 0) ∧ (pre = [] ∨ n ≠ 0) ∧ lev (pre ++ [x]) = n := by
  induction k using Nat.strongRecOn with
  | ind k ih =>
    intro n hk
    by_cases hn : n < 128
    · refine ⟨[], UInt8.ofNat n, by rw [putU_lt hn]; rfl, by simp, ?_, ?_, .inl rfl, ?_⟩
      · rw [UInt8.toNat_ofNat']; omega
      · rw [UInt8.toNat_ofNat']; omega
      · simp only [List.nil_append, lev, UInt8.toNat_ofNat']; omega
    · obtain ⟨pre, x, h1, h2, h3, h4, h5, h6⟩ := ih (n / 128) (by omega) (n / 128) (Nat.le_refl _)
      refine ⟨UInt8.ofNat (n % 128 + 128) :: pre, x, by rw [putU_ge hn, h1]; rfl, ?_, h3, fun _ => h4 (by omega), .inr (by omega), ?_⟩
      · intro b hb
        rcases List.mem_cons.1 hb with rfl | hb
        · rw [UInt8.toNat_ofNat']; omega
        · exact h2 b hb
      · simp only [List.cons_append, lev, h6, UInt8.toNat_ofNat']; omega

theorem readAt_putU {n : Nat} (hn : n ≤ 18446744073709551615) (rest : List UInt8) : readAt (putU n ++ rest) = (n, (putU n).length, 0) := by
  obtain ⟨pre, x, h1, h2, h3, h4, h5, h6⟩ := putU_form n n (Nat.le_refl _)
  have hlen := putU_len10 hn
  have hl : pre.length + 1 ≤ 10 := by rw [h1] at hlen; simpa using hlen
  have hk : pre.length < (putU n ++ rest).length := by rw [h1]; simp
  have hx : (putU n ++ rest)[pre.length] = x := by simp [h1]
  have hlv : lev (pre ++ [x]) = lev pre + 128 ^ pre.length * (x.toNat % 128) := lev_snoc pre x
  have hr := readAt_ok (r := putU n ++ rest) (k := pre.length) (by omega) hk (fun j hj => by
    have hm : pre[j] ∈ pre := List.getElem_mem hj
    have := h2 _ hm
    have e : (putU n ++ rest).getD j 0 = pre[j] := by
      rw [h1, List.getD, List.getElem?_append_left (by simp; omega), List.getElem?_append_left hj, List.getElem?_eq_getElem hj]; rfl
    rw [e]; exact this) (by
    rw [hx]
    rintro (⟨h9, h1'⟩ | ⟨h0, h0'⟩)
    · rw [h6, h9] at hlv
      have : 128 ^ 9 * 2 ≤ 128 ^ 9 * (x.toNat % 128) := Nat.mul_le_mul_left _ (by omega)
      omega
    · rcases h5 with h5 | h5
      · rw [h5] at h0'; simp at h0'
      · exact h4 h5 h0) (by rw [hx]; exact h3)
  have ht : (putU n ++ rest).take (pre.length + 1) = pre ++ [x] := by
    rw [h1]
    have : pre.length + 1 = (pre ++ [x]).length := by simp
    rw [this, List.take_left]
  rw [hr, ht, h6, h1]; simp

theorem putU_lev : ∀ (pre : List UInt8) (x : UInt8), (∀ b ∈ pre, 128 ≤ b.toNat) → x.toNat < 128 → (pre = [] ∨ x.toNat ≠ 0) → putU (lev (pre ++ [x])) = pre ++ [x] ∧ (x.toNat ≠ 0 → lev (pre ++ [x]) ≠ 0)
  | [], x, _, h2, _ => by
    have e : lev ([] ++ [x]) = x.toNat := by simp [lev]; omega
    rw [e]
    exact ⟨by rw [putU_lt h2]; simp, id⟩
  | b :: pre, x, h1, h2, h3 => by
    have hx : x.toNat ≠ 0 := by rcases h3 with h | h; cases h; exact h
    obtain ⟨i1, i2⟩ := putU_lev pre x (fun c hc => h1 c (List.mem_cons_of_mem _ hc)) h2 (.inr hx)
    have hb := h1 b List.mem_cons_self
    have hb2 := UInt8.toNat_lt b
    have h0 := i2 hx
    have e : lev (b :: pre ++ [x]) = b.toNat % 128 + 128 * lev (pre ++ [x]) := rfl
    refine ⟨?_, fun _ => by rw [e]; omega⟩
    rw [e, putU_ge (by omega)]
    have e1 : (b.toNat % 128 + 128 * lev (pre ++ [x])) / 128 = lev (pre ++ [x]) := by omega
    have e2 : (b.toNat % 128 + 128 * lev (pre ++ [x])) % 128 + 128 = b.toNat := by omega
    rw [e1, e2, i1]
    simp

theorem putU_readAt {r : List UInt8} (h : (readAt r).2.2 = 0) : putU (readAt r).1 = r.take (readAt r).2.1 ∧ (readAt r).2.1 ≤ r.length := by
  have h9 := headsF_le 9 r
  have hbig := headsF_big 9 r
  unfold readAt at h ⊢
  split at h
  · simp at h
  · split at h
    · simp at h
    · rename_i h1 h2
      rw [if_neg h1, if_neg h2]
      have hk : headsF 9 r < r.length := by omega
      have hx : r.getD (headsF 9 r) 0 = r[headsF 9 r] := by simp [List.getD, List.getElem?_eq_getElem hk]
      refine ⟨?_, by simp only; omega⟩
      simp only
      rw [take_snoc r _ hk]
      refine (putU_lev _ _ ?_ ?_ ?_).1
      · intro b hb
        obtain ⟨j, hj, e⟩ := List.getElem_of_mem hb
        rw [List.length_take] at hj
        have := hbig j (by omega)
        rw [List.getElem_take] at e
        rw [← e]
        simpa [List.getD, List.getElem?_eq_getElem (show j < r.length by omega)] using this
      · rw [hx] at h2
        rcases Nat.lt_or_ge (headsF 9 r) 9 with h | h
        · have := headsF_stop 9 r h hk; rwa [hx] at this
        · omega
      · rw [hx] at h2
        rcases Nat.eq_zero_or_pos (headsF 9 r) with h0 | h0
        · left; rw [h0]; simp
        · right; intro h3; exact h2 (.inr ⟨h0, h3⟩)
end Go.Proofs.YtjbmlhipjceeeaaGreat.Nu
