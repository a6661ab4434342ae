/- Plain: a number's bytes, and what bytes say (chapter 1). No program in sight. Contracts of the package nums (chapter 1) and of its reference: what each computes. Contracts: the reference's PutU, Same, Twin; Zig and Zag of both. Contracts: U of nums and of the reference. Contracts: U of the reference. Contracts of the cursor of nums (chapter 1). Contracts of the cursor of nums (chapter 1): Num, Bytes, Text. Contracts of the reference's cursor (chapter 1). Plain laws of a number's bytes (chapter 1). -/
import Derived.Test.YtjbmlhipjceeeaaGreatProg
import Derived.Test.YtjbmlhipjceeeaaGreatMem
import Derived.Test.YtjbmlhipjceeeaaGreatBits
import Derived.WalkKit

namespace Go.Proofs.YtjbmlhipjceeeaaGreat.Nu
set_option linter.unusedVariables false
set_option linter.unusedSimpArgs false

/-- The bytes of a number, by division. -/
def putU (n : Nat) : List UInt8 := if h : n < 128 then [UInt8.ofNat n] else UInt8.ofNat (n % 128 + 128) :: putU (n / 128)
termination_by n
decreasing_by omega

theorem putU_lt {n : Nat} (h : n < 128) : putU n = [UInt8.ofNat n] := by rw [putU, dif_pos h]
theorem putU_ge {n : Nat} (h : ¬ n < 128) : putU n = UInt8.ofNat (n % 128 + 128) :: putU (n / 128) := by rw [putU, dif_neg h]
theorem putU_pos (n : Nat) : 1 ≤ (putU n).length := by
  by_cases h : n < 128
  · rw [putU_lt h]; simp
  · rw [putU_ge h]; simp
theorem putU_len (k : Nat) : ∀ n, n < 128 ^ (k + 1) → (putU n).length ≤ k + 1 := by
  induction k with
  | zero => intro n h; rw [putU_lt (by omega)]; simp
  | succ k ih =>
    intro n h
    by_cases hn : n < 128
    · rw [putU_lt hn]; simp
    · rw [putU_ge hn, List.length_cons]
      have := ih (n / 128) (by rw [Nat.pow_succ] at h; omega)
      omega

theorem putU_step {n m : Nat} {pre : List UInt8} (h : pre ++ putU m = putU n) (hm : ¬ m < 128) : (pre ++ [UInt8.ofNat (m % 128 + 128)]) ++ putU (m / 128) = putU n := by
  rw [putU_ge hm] at h; rw [← h]; simp
theorem putU_end {n m : Nat} {pre : List UInt8} (h : pre ++ putU m = putU n) (hm : m < 128) : pre ++ [UInt8.ofNat m] = putU n := by
  rw [putU_lt hm] at h; exact h
theorem putU_room {n m : Nat} {pre : List UInt8} (h : pre ++ putU m = putU n) (hn : (putU n).length ≤ 10) : pre.length + 1 ≤ 10 := by
  have := congrArg List.length h
  have := putU_pos m
  simp at *; omega

/-- The bytes of 128 and more that stand ahead, f at the most. -/
def headsF : Nat → List UInt8 → Nat
  | 0, _ => 0
  | _ + 1, [] => 0
  | f + 1, x :: r => if 128 ≤ x.toNat then headsF f r + 1 else 0
/-- Little-endian, base 128. -/
def lev : List UInt8 → Nat
  | [] => 0
  | x :: r => x.toNat % 128 + 128 * lev r
/-- What stands at the head of r: the number, how many bytes, the error. -/
def readAt (r : List UInt8) : Nat × Nat × Nat :=
  if r.length ≤ headsF 9 r then (0, 0, 3)
  else if (headsF 9 r = 9 ∧ 1 < (r.getD (headsF 9 r) 0).toNat) ∨ (0 < headsF 9 r ∧ (r.getD (headsF 9 r) 0).toNat = 0) then (0, 0, 4)
  else (lev (r.take (headsF 9 r + 1)), headsF 9 r + 1, 0)
def readU (l : List UInt8) (at_ : Int) : Nat × Nat × Nat :=
  if at_ < 0 ∨ (l.length : Int) ≤ at_ then (0, 0, 3) else readAt (l.drop at_.toNat)

theorem headsF_le (f : Nat) : ∀ r, headsF f r ≤ f := by
  induction f with
  | zero => intro r; simp [headsF]
  | succ f ih =>
    intro r
    cases r with
    | nil => simp [headsF]
    | cons x r => simp only [headsF]; have := ih r; split <;> omega
theorem headsF_len (f : Nat) : ∀ r, headsF f r ≤ r.length := by
  induction f with
  | zero => intro r; simp [headsF]
  | succ f ih =>
    intro r
    cases r with
    | nil => simp [headsF]
    | cons x r => simp only [headsF, List.length_cons]; have := ih r; split <;> omega
theorem headsF_eq (f : Nat) : ∀ (r : List UInt8) (k : Nat), k ≤ f → k ≤ r.length → (∀ j, j < k → 128 ≤ (r.getD j 0).toNat) →
    (k = f ∨ k = r.length ∨ (r.getD k 0).toNat < 128) → headsF f r = k := by
  induction f with
  | zero => intro r k h1 _ _ _; simp [headsF]; omega
  | succ f ih =>
    intro r k h1 h2 h3 h4
    cases r with
    | nil => simp at h2; subst h2; simp [headsF]
    | cons x r =>
      cases k with
      | zero =>
        have : x.toNat < 128 := by rcases h4 with h | h | h <;> simp at h; exact h
        simp only [headsF]; rw [if_neg (by omega)]
      | succ k =>
        have h0 := h3 0 (by omega)
        simp at h0
        simp only [headsF]; rw [if_pos h0]
        rw [ih r k (by omega) (by simpa using h2) (fun j hj => by have := h3 (j + 1) (by omega); simpa using this) (by rcases h4 with h | h | h; exact .inl (by omega); exact .inr (.inl (by simpa using h)); exact .inr (.inr (by simpa using h)))]
theorem headsF_big (f : Nat) : ∀ (r : List UInt8) (j : Nat), j < headsF f r → 128 ≤ (r.getD j 0).toNat := by
  induction f with
  | zero => intro r j h; simp [headsF] at h
  | succ f ih =>
    intro r j h
    cases r with
    | nil => simp [headsF] at h
    | cons x r =>
      simp only [headsF] at h
      split at h
      · cases j with
        | zero => simpa
        | succ j => simpa using ih r j (by omega)
      · omega

theorem lev_snoc : ∀ (r : List UInt8) (x : UInt8), lev (r ++ [x]) = lev r + 128 ^ r.length * (x.toNat % 128)
  | [], x => by simp [lev]
  | y :: r, x => by
    simp only [List.cons_append, lev, lev_snoc r x, List.length_cons, Nat.pow_succ]
    rw [Nat.mul_add, ← Nat.mul_assoc, Nat.mul_comm 128 (128 ^ r.length), Nat.add_assoc]
theorem take_snoc {α : Type} (r : List α) (k : Nat) (h : k < r.length) : r.take (k + 1) = r.take k ++ [r[k]] := List.take_succ_eq_append_getElem h
theorem lev_take (r : List UInt8) (k : Nat) (h : k < r.length) : lev (r.take (k + 1)) = lev (r.take k) + 128 ^ k * (r[k].toNat % 128) := by
  rw [take_snoc r k h, lev_snoc, List.length_take, Nat.min_eq_left (by omega)]
theorem lev_lt : ∀ r : List UInt8, lev r < 128 ^ r.length
  | [] => by simp [lev]
  | x :: r => by
    have := lev_lt r
    simp only [lev, List.length_cons, Nat.pow_succ]
    omega
theorem lev_take_lt (r : List UInt8) (k : Nat) : lev (r.take k) < 128 ^ k := by
  have h1 := lev_lt (r.take k)
  have h2 : (r.take k).length ≤ k := List.length_take_le _ _
  exact Nat.lt_of_lt_of_le h1 (Nat.pow_le_pow_right (by omega) h2)

theorem readAt_short {r : List UInt8} (hl : r.length ≤ 9) (h : ∀ j, j < r.length → 128 ≤ (r.getD j 0).toNat) : readAt r = (0, 0, 3) := by
  have := headsF_eq 9 r r.length hl (Nat.le_refl _) h (.inr (.inl rfl))
  unfold readAt; rw [this, if_pos (Nat.le_refl _)]
theorem readAt_form {r : List UInt8} {k : Nat} (hk : k ≤ 9) (hl : k < r.length) (h : ∀ j, j < k → 128 ≤ (r.getD j 0).toNat) (hx : (k = 9 ∧ 1 < r[k].toNat) ∨ (r[k].toNat = 0 ∧ 0 < k)) : readAt r = (0, 0, 4) := by
  have hg : r.getD k 0 = r[k] := by simp [List.getD, List.getElem?_eq_getElem hl]
  have := headsF_eq 9 r k hk (by omega) h (by rcases hx with h | h; exact .inl h.1; exact .inr (.inr (by rw [hg]; omega)))
  unfold readAt; rw [this, if_neg (by omega), if_pos]
  rw [hg]
  rcases hx with h | h
  · exact .inl h
  · exact .inr ⟨h.2, h.1⟩
theorem readAt_ok {r : List UInt8} {k : Nat} (hk : k ≤ 9) (hl : k < r.length) (h : ∀ j, j < k → 128 ≤ (r.getD j 0).toNat) (hx : ¬ ((k = 9 ∧ 1 < r[k].toNat) ∨ (r[k].toNat = 0 ∧ 0 < k))) (hx2 : r[k].toNat < 128) :
    readAt r = (lev (r.take (k + 1)), k + 1, 0) := by
  have hg : r.getD k 0 = r[k] := by simp [List.getD, List.getElem?_eq_getElem hl]
  have := headsF_eq 9 r k hk (by omega) h (.inr (.inr (by rw [hg]; omega)))
  unfold readAt; rw [this, if_neg (by omega), if_neg]
  rw [hg]
  intro h; exact hx (by rcases h with h | h; exact .inl h; exact .inr ⟨h.2, h.1⟩)

theorem readAt_h1 {r : List UInt8} {j : Nat} (h : headsF 9 r = j) (hl : r.length ≤ j) : readAt r = (0, 0, 3) := by
  unfold readAt; rw [h, if_pos hl]
theorem readAt_h2 {r : List UInt8} {j : Nat} (h : headsF 9 r = j) (hl : j < r.length) (hx : (j = 9 ∧ 1 < r[j].toNat) ∨ (0 < j ∧ r[j].toNat = 0)) : readAt r = (0, 0, 4) := by
  have hg : r.getD j 0 = r[j] := by simp [List.getD, List.getElem?_eq_getElem hl]
  unfold readAt; rw [h, if_neg (by omega), hg, if_pos hx]
theorem readAt_h3 {r : List UInt8} {j : Nat} (h : headsF 9 r = j) (hl : j < r.length) (hx : ¬ ((j = 9 ∧ 1 < r[j].toNat) ∨ (0 < j ∧ r[j].toNat = 0))) : readAt r = (lev (r.take (j + 1)), j + 1, 0) := by
  have hg : r.getD j 0 = r[j] := by simp [List.getD, List.getElem?_eq_getElem hl]
  unfold readAt; rw [h, if_neg (by omega), hg, if_neg hx]
theorem lev_drop_le : ∀ (l : List UInt8) (t : Nat), lev (l.drop t) ≤ lev l
  | [], t => by simp [lev]
  | x :: r, 0 => by simp
  | x :: r, t + 1 => by
    have := lev_drop_le r t
    simp only [List.drop_succ_cons, lev]
    omega
theorem lev_drop (l : List UInt8) (t : Nat) (h : t < l.length) : lev (l.drop t) = l[t].toNat % 128 + 128 * lev (l.drop (t + 1)) := by
  rw [List.drop_eq_getElem_cons h, lev]
theorem lev_back {r : List UInt8} {j t : Nat} (ht : t < j + 1) (hl : j < r.length) : lev ((r.take (j + 1)).drop t) = (r[t]'(by omega)).toNat % 128 + 128 * lev ((r.take (j + 1)).drop (t + 1)) := by
  rw [lev_drop _ t (by rw [List.length_take]; omega), List.getElem_take]
theorem lev_max {r : List UInt8} {k : Nat} (hk : k ≤ 9) (hl : k < r.length) (hx : ¬ (k = 9 ∧ 1 < r[k].toNat)) : lev (r.take (k + 1)) ≤ 18446744073709551615 := by
  rw [lev_take r k hl]
  have h0 := lev_take_lt r k
  rcases Nat.lt_or_ge k 9 with h | h
  · have h1 : 128 ^ k ≤ 128 ^ 8 := Nat.pow_le_pow_right (by omega) (by omega)
    have h2 : 128 ^ k * (r[k].toNat % 128) ≤ 128 ^ 8 * 127 := Nat.mul_le_mul h1 (by omega)
    omega
  · obtain rfl : k = 9 := by omega
    have : r[9].toNat % 128 ≤ 1 := by omega
    have h2 : 128 ^ 9 * (r[9].toNat % 128) ≤ 128 ^ 9 * 1 := Nat.mul_le_mul_left _ this
    omega
theorem readAt_max (r : List UInt8) : (readAt r).1 ≤ 18446744073709551615 ∧ (readAt r).2.1 ≤ 10 ∧ (readAt r).2.1 ≤ r.length := by
  have h9 := headsF_le 9 r
  unfold readAt
  split
  · simp
  · split
    · simp
    · rename_i h1 h2
      refine ⟨lev_max h9 (by omega) (fun h => h2 (.inl ⟨h.1, ?_⟩)), by simp only; omega, by simp only; omega⟩
      have := h.2
      simpa [List.getD, List.getElem?_eq_getElem (show headsF 9 r < r.length by omega)] using this
theorem heads_step {r : List UInt8} {j : Nat} (h : ∀ t, t < j → 128 ≤ (r.getD t 0).toNat) (hj : j < r.length) (hx : 128 ≤ r[j].toNat) : ∀ t, t < j + 1 → 128 ≤ (r.getD t 0).toNat := by
  intro t ht
  rcases Nat.lt_or_ge t j with h1 | h1
  · exact h t h1
  · obtain rfl : t = j := by omega
    simpa [List.getD, List.getElem?_eq_getElem hj] using hx
/-- Where the heads end ahead of the ninth and of the end, a small byte stands. -/
theorem headsF_stop (f : Nat) : ∀ r : List UInt8, headsF f r < f → headsF f r < r.length → (r.getD (headsF f r) 0).toNat < 128 := by
  induction f with
  | zero => intro r h _; omega
  | succ f ih =>
    intro r h1 h2
    cases r with
    | nil => simp at h2
    | cons x r =>
      simp only [headsF] at h1 h2 ⊢
      split
      · rename_i hx
        rw [if_pos hx] at h1 h2
        simpa using ih r (by omega) (by simpa using h2)
      · simp; omega
end Go.Proofs.YtjbmlhipjceeeaaGreat.Nu

namespace Go.Proofs.YtjbmlhipjceeeaaGreat.Nu
set_option linter.unusedVariables false
set_option linter.unusedSimpArgs false
open Go.RowKit

theorem Tryz.infoU8 : (Tryz.prog.info? 5).map (fun i => (i.zero, i.size, i.bytes)) = some (some (.int .u8 0), 1, 1) := by kernel_rfl

set_option maxRecDepth 100000 in
set_option maxHeartbeats 400000 in
theorem putU_calls (n : Nat) (w : World) (hn : (putU n).length ≤ 10) :
    Calls Tryz.prog 40 #[.int .u64 (n : Int)] w (RetBytes 5 w (putU n)) := by
  go_enter Tryz.func40, Tryz.ntmps40
  go_wp2
  go_loopw [0, 3] (fun x v wr => ∃ (m : Nat) (pre : List UInt8), x = .int .u64 (m : Int) ∧ wr.ownsRow w.heap.size 5 1 v pre.length (pre.map byteV) ∧ pre ++ putU m = putU n ∧ Below w.heap.size w wr) (fun x _ _ => (intOf x).toNat)
  case atStart => exact ⟨n, [], rfl, World.ownsRow_nil _ _ _ _, rfl, Below.refl _ _⟩
  case round =>
    obtain ⟨m, pre, rfl, hown, hpre, hbel⟩ := hrel
    have Hr := putU_room hpre hn
    have Hp := Lib.hid hpre; clear hpre
    by_cases hlt : m < 128
    · go_wp2_with (at_builtin; go_must (refine wpList_push _ rfl (.tmp 14) (.tmp 17) _ rfl w.heap.size 5 _ 1 Tryz.underlying46 Tryz.infoU8 rfl _ _ _ _ _ rfl rfl hown rfl (by unfold maxLen; omega) (by omega) hbel.size ?_))
      intro v' w1 hown' hbel' _ _
      have hown2 := own_snoc hown' (u8_nat (by omega))
      rw [putU_end Hp.out hlt] at hown2
      go_wp2
      go_ret
      exact ⟨_, rfl, hown2, hbel.trans hbel'⟩
    · go_wp2_with (at_builtin; go_must (refine wpList_push _ rfl (.tmp 6) (.tmp 10) _ rfl w.heap.size 5 _ 1 Tryz.underlying46 Tryz.infoU8 rfl _ _ _ _ _ rfl rfl hown rfl (by unfold maxLen; omega) (by omega) hbel.size ?_))
      intro v' w1 hown' hbel' _ _
      have hown2 := own_snoc hown' (or128 m)
      clear hown' hown
      go_wp2
      go_roundw
      case rel => exact ⟨m / 128, _, by go_num, hown2, putU_step Hp.out hlt, hbel.trans hbel'⟩
      case measure => simp [intOf]; omega
end Go.Proofs.YtjbmlhipjceeeaaGreat.Nu

namespace Go.Proofs.YtjbmlhipjceeeaaGreat.Nu
set_option linter.unusedVariables false
set_option linter.unusedSimpArgs false
open Go.RowKit

set_option maxRecDepth 100000 in
set_option maxHeartbeats 400000 in
theorem putURef_calls (n : Nat) (w : World) (hn : (putU n).length ≤ 10) (hn2 : n ≤ 18446744073709551615) :
    Calls Tryz.prog 93 #[.int .u64 (n : Int)] w (RetBytes 5 w (putU n)) := by
  go_enter Tryz.func93, Tryz.ntmps93
  go_wp2
  go_loopw [0, 3] (fun x v wr => ∃ (m : Nat) (pre : List UInt8), m ≤ n ∧ x = .int .u64 (m : Int) ∧ wr.ownsRow w.heap.size 5 1 v pre.length (pre.map byteV) ∧ pre ++ putU m = putU n ∧ Below w.heap.size w wr) (fun x _ _ => (intOf x).toNat)
  case atStart => exact ⟨n, [], Nat.le_refl _, rfl, World.ownsRow_made w #[] 0 (Nat.le_refl _) (Nat.zero_le _) rfl, rfl, (Below.refl _ _).alloc (Nat.le_refl _) _⟩
  case round =>
    obtain ⟨m, pre, hm, rfl, hown, hpre, hbel⟩ := hrel
    have hm2 : m ≤ 18446744073709551615 := by omega
    have hm3 : m ≤ n := hm
    clear hm
    have Hr := putU_room hpre hn
    have Hp := Lib.hid hpre; clear hpre
    by_cases hlt : m < 128
    · go_wp2_with (at_builtin; go_must (refine wpList_push _ rfl (.tmp 17) (.tmp 20) _ rfl w.heap.size 5 _ 1 Tryz.underlying46 Tryz.infoU8 rfl _ _ _ _ _ rfl rfl hown rfl (by unfold maxLen; omega) (by omega) hbel.size ?_))
      intro v' w1 hown' hbel' _ _
      have hown2 := own_snoc hown' (u8_nat (by omega))
      rw [putU_end Hp.out hlt] at hown2
      go_wp2
      go_ret
      exact ⟨_, rfl, hown2, hbel.trans hbel'⟩
    · go_wp2_with (at_builtin; go_must (refine wpList_push _ rfl (.tmp 8) (.tmp 13) _ rfl w.heap.size 5 _ 1 Tryz.underlying46 Tryz.infoU8 rfl _ _ _ _ _ rfl rfl hown rfl (by unfold maxLen; omega) (by omega) hbel.size ?_))
      intro v' w1 hown' hbel' _ _
      have hown2 := own_snoc (b := UInt8.ofNat (m % 128 + 128)) hown' (by rw [UInt8.toNat_ofNat']; omega)
      clear hown' hown
      go_wp2
      go_roundw
      case rel => exact ⟨m / 128, _, by omega, by go_num, hown2, putU_step Hp.out hlt, hbel.trans hbel'⟩
      case measure => simp [intOf]; omega

theorem same_calls (w : World) {B1 B2 : Nat} {A1 A2 : Option Addr} {n1 n2 c1 c2 : Nat} {l1 l2 : List UInt8} (h1 : Bytes w B1 A1 n1 l1) (h2 : Bytes w B2 A2 n2 l2) :
    Calls Tryz.prog 18 #[.slice A1 n1 c1, .slice A2 n2 c2] w fun e w' => e = .returned (.bool (l1 == l2)) ∧ w = w' := by
  have k1 := h1.conv Tryz.prog c1 46 5 9 Tryz.underlying46 Tryz.underlying5 Tryz.underlying9
  have k2 := h2.conv Tryz.prog c2 46 5 9 Tryz.underlying46 Tryz.underlying5 Tryz.underlying9
  clear h1 h2
  go_enter Tryz.func18, Tryz.ntmps18
  go_wp2
  go_ret
  exact ⟨rfl, rfl⟩

theorem twin_calls (w : World) {B : Nat} {A : Option Addr} {n c : Nat} {l : List UInt8} (h : Bytes w B A n l) (hB : B ≤ w.heap.size) (hn : n ≤ 140737488355328) :
    Calls Tryz.prog 20 #[.slice A n c] w (RetBytes 5 w l) := by
  go_enter Tryz.func20, Tryz.ntmps20
  go_wp2_with (at_builtin; go_must (refine wpList_append_any _ rfl (.tmp 3) (.tmp 4) _ rfl w.heap.size 5 _ 1 1 Tryz.underlying46 Tryz.infoU8 rfl (by omega) _ _ _ rfl (World.ownsRow_made w #[] 0 (Nat.le_refl _) (Nat.zero_le _) rfl) B A n c (l.map byteV) rfl (h.to ((Below.refl B w).alloc hB _) (Nat.le_refl _)).2 (byteV_one l) (by unfold maxLen; omega) (by omega) (by simp) ?_))
  intro v' w1 hown hbel _ _
  have hown2 : w1.ownsRow w.heap.size 5 1 v' l.length (l.map byteV) := by have hl := h.1; subst hl; simpa using hown
  go_wp2
  go_ret
  exact ⟨_, rfl, hown2, ((Below.refl _ _).alloc (Nat.le_refl _) _).trans hbel⟩

end Go.Proofs.YtjbmlhipjceeeaaGreat.Nu

namespace Go.Proofs.YtjbmlhipjceeeaaGreat.Nu
set_option linter.unusedVariables false
set_option linter.unusedSimpArgs false
open Go.RowKit

def RetU (w : World) (r : Nat × Nat × Nat) (e : Ending) (w' : World) : Prop := e = .returned (.tuple #[.int .u64 (r.1 : Nat), .int .i64 (r.2.1 : Nat), .int .i64 (r.2.2 : Nat)]) ∧ w = w'

theorem ret_u {k : IntKind} {a b : Int} {x y : Value} (h : a = b) : Ending.returned (.tuple #[.int k a, x, y]) = .returned (.tuple #[.int k b, x, y]) := by rw [h]
theorem u_out (w : World) {A : Option Addr} {n c : Nat} (at_ : Int) (h : at_ < 0 ∨ (n : Int) ≤ at_) :
    Calls Tryz.prog 118 #[.slice A n c, .int .i64 at_] w (RetU w (0, 0, 3)) := by
  by_cases h1 : at_ < 0
  · clear h
    go_enter Tryz.func118, Tryz.ntmps118
    go_wp2
    go_ret3
    exact ⟨rfl, rfl⟩
  · have h2 : (n : Int) ≤ at_ := by omega
    clear h
    go_enter Tryz.func118, Tryz.ntmps118
    go_wp2
    go_ret3
    exact ⟨rfl, rfl⟩

set_option maxRecDepth 100000 in
set_option maxHeartbeats 400000 in
theorem u_in (w : World) {B : Nat} {A : Option Addr} {n c : Nat} {l : List UInt8} (hb : Bytes w B A n l) (k : Nat) (hk : k < n) (hc : n ≤ c) (hm : n ≤ 9223372036854775807) :
    Calls Tryz.prog 118 #[.slice A n c, .int .i64 (k : Int)] w (RetU w (readAt (l.drop k))) := by
  obtain ⟨b, off, rfl, _, hcell⟩ := hb.cell hk
  have hl : (l.drop k).length = n - k := by rw [List.length_drop, hb.1]
  have hcells : ∀ j (hj : j < (l.drop k).length), w.cell? ⟨b, off + k + j, none⟩ = some (.int .u8 (((l.drop k)[j]).toNat : Int)) := fun j hj => by
    have := hcell (k + j) (by omega)
    rw [← Nat.add_assoc] at this
    simpa using this
  clear hcell hb
  generalize l.drop k = r at *
  have hck : ¬ c = k := by omega
  go_enter Tryz.func118, Tryz.ntmps118
  go_wp2
  go_loop [7, 22] (fun acc i => ∃ j : Nat, j ≤ n - k ∧ j ≤ 9 ∧ acc = .int .u64 (lev (r.take j) : Nat) ∧ i = .int .i64 (j : Int) ∧ Hid (∀ t, t < j → 128 ≤ (r.getD t 0).toNat)) (fun _ i => (n - k) - (intOf i).toNat)
  case atStart => exact ⟨0, by omega, by omega, by simp [lev], rfl, fun t ht => by omega⟩
  case round =>
    obtain ⟨j, hj, hj9, rfl, rfl, hbig⟩ := hrel
    by_cases hlt : j < r.length
    · have hx := hcells j hlt
      have hl2 : (0 : Int) ≤ (r[j].toNat : Int) ∧ (r[j].toNat : Int) < 256 := by have := UInt8.toNat_lt r[j]; omega
      clear hcells
      generalize hacc : lev (r.take j) = acc at *
      generalize hxe : r[j] = x at *
      have Ha := Lib.hid hacc; clear hacc
      have Hx := Lib.hid hxe; clear hxe
      have hlt2 : j < n - k := by omega
      have Hl := Lib.hid hl; clear hl
      have hacc2 : acc < 128 ^ j := by rw [← Ha.out]; exact lev_take_lt r j
      have Hstep : (j = 9 → x.toNat % 128 ≤ 1) → Hid (bits .or .u64 (acc : Int) (IntKind.u64.wrap (IntKind.u64.wrap (bits .and .u8 (x.toNat : Int) 127) * 2 ^ (7 * j))) = ((lev (r.take (j + 1)) : Nat) : Int)) := fun h => by
        have := or_step acc j x hj9 hacc2 h
        rw [lev_take r j hlt, Hx.out, Ha.out]; exact this
      clear hacc2
      by_cases h9 : j = 9
      · have q1 : ((j : Int) == 9) = true := by simp; omega
        by_cases h1 : 1 < (x.toNat : Int)
        · have Hfin := Lib.hid (readAt_form hj9 hlt hbig.out (.inl ⟨h9, by rw [Hx.out]; omega⟩))
          clear h9 Hstep
          go_wp2
          go_ret3
          rw [Hfin.out]; exact ⟨rfl, rfl⟩
        · by_cases h0 : (x.toNat : Int) = 0
          · have q2 : ((x.toNat : Int) == 0) = true := by simp; omega
            have hj0 : 0 < j := by omega
            have Hfin := Lib.hid (readAt_form hj9 hlt hbig.out (.inr ⟨by rw [Hx.out]; omega, hj0⟩))
            clear h0 h9 Hstep
            go_wp2
            go_ret3
            rw [Hfin.out]; exact ⟨rfl, rfl⟩
          · have q2 : ((x.toNat : Int) == 0) = false := by simp; omega
            have Hfin := Lib.hid (readAt_ok hj9 hlt hbig.out (by rw [Hx.out]; omega) (by rw [Hx.out]; omega))
            have Hs := Hstep (by omega)
            have h128 : (x.toNat : Int) < 128 := by omega
            clear h0 h9 Hstep
            go_wp2
            go_ret3
            rw [Hfin.out]; exact ⟨ret_u Hs.out, rfl⟩
      · have q1 : ((j : Int) == 9) = false := by simp; omega
        have Hs := Hstep (by omega)
        clear Hstep
        by_cases h0 : (x.toNat : Int) = 0
        · have q2 : ((x.toNat : Int) == 0) = true := by simp; omega
          by_cases hj0 : 0 < j
          · have Hfin := Lib.hid (readAt_form hj9 hlt hbig.out (.inr ⟨by rw [Hx.out]; omega, hj0⟩))
            clear h0 h9
            go_wp2
            go_ret3
            rw [Hfin.out]; exact ⟨rfl, rfl⟩
          · have Hfin := Lib.hid (readAt_ok hj9 hlt hbig.out (by rw [Hx.out]; omega) (by rw [Hx.out]; omega))
            have h128 : (x.toNat : Int) < 128 := by omega
            clear h0 h9
            go_wp2
            go_ret3
            rw [Hfin.out]; exact ⟨ret_u Hs.out, rfl⟩
        · have q2 : ((x.toNat : Int) == 0) = false := by simp; omega
          by_cases h128 : (x.toNat : Int) < 128
          · have Hfin := Lib.hid (readAt_ok hj9 hlt hbig.out (by rw [Hx.out]; omega) (by rw [Hx.out]; omega))
            clear h0 h9
            go_wp2
            go_ret3
            rw [Hfin.out]; exact ⟨ret_u Hs.out, rfl⟩
          · have hbig2 : Hid (∀ t, t < j + 1 → 128 ≤ (r.getD t 0).toNat) := heads_step hbig.out hlt (by rw [Hx.out]; omega)
            have hj8 : j < 9 := by omega
            clear h0 h9
            go_wp2
            go_round
            case rel => exact ⟨j + 1, by omega, by omega, by rw [Hs.out], by go_num, hbig2⟩
            case measure => simp [intOf]; omega
    · have Hfin := Lib.hid (readAt_short (r := r) (by omega) (fun t ht => hbig.out t (by omega)))
      have hge : ¬ j < n - k := by omega
      clear hcells
      go_wp2
      go_ret3
      rw [Hfin.out]; exact ⟨rfl, rfl⟩

/-- U of nums: what the bytes say at that place. -/
theorem u_calls (w : World) {B : Nat} {A : Option Addr} {n c : Nat} {l : List UInt8} (hb : Bytes w B A n l) (at_ : Int) (hc : n ≤ c) (hm : n ≤ 9223372036854775807) :
    Calls Tryz.prog 118 #[.slice A n c, .int .i64 at_] w (RetU w (readU l at_)) := by
  unfold readU
  rw [hb.1]
  by_cases h : at_ < 0 ∨ (n : Int) ≤ at_
  · rw [if_pos h]; exact u_out w at_ h
  · rw [if_neg h]
    obtain ⟨k, rfl⟩ := Int.eq_ofNat_of_zero_le (show 0 ≤ at_ by omega)
    exact u_in w hb k (by omega) hc hm
end Go.Proofs.YtjbmlhipjceeeaaGreat.Nu

namespace Go.Proofs.YtjbmlhipjceeeaaGreat.Nu
set_option linter.unusedVariables false
set_option linter.unusedSimpArgs false
open Go.RowKit

theorem v_out (w : World) {A : Option Addr} {n c : Nat} (at_ : Int) (h : at_ < 0 ∨ (n : Int) ≤ at_) :
    Calls Tryz.prog 119 #[.slice A n c, .int .i64 at_] w (RetU w (0, 0, 3)) := by
  by_cases h1 : at_ < 0
  · clear h
    go_enter Tryz.func119, Tryz.ntmps119
    go_wp2
    go_ret3
    exact ⟨rfl, rfl⟩
  · have h2 : (n : Int) ≤ at_ := by omega
    clear h
    go_enter Tryz.func119, Tryz.ntmps119
    go_wp2
    go_ret3
    exact ⟨rfl, rfl⟩

set_option maxRecDepth 100000 in
set_option maxHeartbeats 400000 in
theorem v_in (w : World) {B : Nat} {A : Option Addr} {n c : Nat} {l : List UInt8} (hb : Bytes w B A n l) (k : Nat) (hk : k < n) (hm : n ≤ 9223372036854775807) :
    Calls Tryz.prog 119 #[.slice A n c, .int .i64 (k : Int)] w (RetU w (readAt (l.drop k))) := by
  obtain ⟨b, off, rfl, _, hcell⟩ := hb.cell hk
  have hl : (l.drop k).length = n - k := by rw [List.length_drop, hb.1]
  have hcells : ∀ j (hj : j < (l.drop k).length), w.cell? ⟨b, off + (k + j), none⟩ = some (.int .u8 (((l.drop k)[j]).toNat : Int)) := fun j hj => by
    have := hcell (k + j) (by omega)
    simpa using this
  clear hcell hb
  generalize l.drop k = r at *
  have Hl := Lib.hid hl; clear hl
  have Hcells := Lib.hid hcells; clear hcells
  have d1 : decide (n ≤ k) = false := by simp; omega
  have d2 : decide ((k : Int) < 0) = false := by simp
  go_enter Tryz.func119, Tryz.ntmps119
  go_upto_block 0 with fail
  go_cut [7] (fun i wx => ∃ j : Nat, j ≤ n - k ∧ j ≤ 9 ∧ i = .int .i64 (j : Int) ∧ Hid (headsF 9 r = j) ∧ wx = w)
  case first =>
    go_wp2_with fail
    go_loop [7] (fun i => ∃ j : Nat, j ≤ n - k ∧ j ≤ 9 ∧ i = .int .i64 (j : Int) ∧ Hid (∀ t, t < j → 128 ≤ (r.getD t 0).toNat)) (fun i => 9 - (intOf i).toNat)
    case atStart => exact ⟨0, by omega, by omega, rfl, fun t ht => by omega⟩
    case round =>
      obtain ⟨j, hj, hj9, rfl, hbig⟩ := hrel
      by_cases h9 : j < 9
      · by_cases hlt : j < n - k
        · have hx := Hcells.out j (by rw [Hl.out]; exact hlt)
          generalize hxe : r[j]'(by rw [Hl.out]; exact hlt) = x at *
          by_cases h128 : 128 ≤ (x.toNat : Int)
          · have hbig2 : Hid (∀ t, t < j + 1 → 128 ≤ (r.getD t 0).toNat) := heads_step hbig.out (by rw [Hl.out]; exact hlt) (by rw [hxe]; omega)
            clear hxe
            go_wp2
            go_round
            case rel => exact ⟨j + 1, by omega, by omega, by go_num, hbig2⟩
            case measure => simp [intOf]; omega
          · have Hh : Hid (headsF 9 r = j) := headsF_eq 9 r j (by omega) (by rw [Hl.out]; omega) hbig.out (.inr (.inr (by
              have : r.getD j 0 = x := by rw [← hxe]; simp [List.getD, List.getElem?_eq_getElem (show j < r.length by rw [Hl.out]; exact hlt)]
              rw [this]; omega)))
            clear hxe
            go_wp2
            go_meet
            case rel => exact ⟨j, hj, hj9, rfl, Hh, rfl⟩
        · have Hh : Hid (headsF 9 r = j) := headsF_eq 9 r j (by omega) (by rw [Hl.out]; omega) hbig.out (.inr (.inl (by rw [Hl.out]; omega)))
          go_wp2
          go_meet
          case rel => exact ⟨j, hj, hj9, rfl, Hh, rfl⟩
      · have Hh : Hid (headsF 9 r = j) := headsF_eq 9 r j (by omega) (by rw [Hl.out]; omega) hbig.out (.inl (by omega))
        go_wp2
        go_meet
        case rel => exact ⟨j, hj, hj9, rfl, Hh, rfl⟩
  case rest =>
    obtain ⟨j, hj, hj9, rfl, hh, rfl⟩ := hcut
    clear d1 d2
    by_cases hlt : j < n - k
    · have hx := Hcells.out j (by rw [Hl.out]; exact hlt)
      have hlr : j < r.length := by rw [Hl.out]; exact hlt
      generalize hxe : r[j]'hlr = x at *
      have hx2 := UInt8.toNat_lt x
      by_cases hbad : (j = 9 ∧ 1 < x.toNat) ∨ (0 < j ∧ x.toNat = 0)
      · have Hfin := Lib.hid (readAt_h2 hh.out hlr (by rw [hxe]; exact hbad))
        clear hxe
        by_cases h9 : j = 9 ∧ 1 < x.toNat
        · have q1 : ((j : Int) == 9) = true := by simp; omega
          have q2 : (1 : Int) < (x.toNat : Int) := by omega
          clear hbad h9
          go_wp2
          go_ret3
          rw [Hfin.out]; exact ⟨rfl, rfl⟩
        · have q3 : 0 < j := by omega
          have q4 : ((x.toNat : Int) == 0) = true := by simp; omega
          have q5 : ¬ (1 : Int) < (x.toNat : Int) := by omega
          clear hbad h9
          go_wp2
          all_goals go_ret3
          all_goals (rw [Hfin.out]; exact ⟨rfl, rfl⟩)
      · have Hfin := Lib.hid (readAt_h3 hh.out hlr (by rw [hxe]; exact hbad))
        have hmax := lev_max hj9 hlr (by rw [hxe]; omega)
        clear hxe
        have q : (((j : Int) == 9) = true ∧ (¬ (1 : Int) < (x.toNat : Int) ∧ 0 < j) ∧ ((x.toNat : Int) == 0) = false) ∨ (((j : Int) == 9) = false ∧ 0 < j ∧ ((x.toNat : Int) == 0) = false) ∨ (((j : Int) == 9) = false ∧ ¬ 0 < j) := by
          by_cases h9 : j = 9
          · exact .inl ⟨by simp; omega, ⟨by omega, by omega⟩, by simp; omega⟩
          · by_cases h0 : 0 < j
            · exact .inr (.inl ⟨by simp; omega, h0, by simp; omega⟩)
            · exact .inr (.inr ⟨by simp; omega, h0⟩)
        clear hbad
        rcases q with ⟨q1, q2, q3⟩ | ⟨q1, q2, q3⟩ | ⟨q1, q2⟩
        all_goals
          go_wp2
          go_loop [9, 10] (fun v i => ∃ t : Nat, t ≤ j + 1 ∧ i = .int .i64 ((t : Int) - 1) ∧ v = .int .u64 (lev ((r.take (j + 1)).drop t) : Nat)) (fun _ i => (intOf i + 1).toNat)
          case atStart => exact ⟨j + 1, by omega, by go_num, by simp [lev]⟩
          case round =>
            obtain ⟨t, ht, rfl, rfl⟩ := hrel
            rcases Nat.eq_zero_or_pos t with h0 | h0
            · subst h0
              go_wp2
              go_ret3
              rw [Hfin.out]; exact ⟨rfl, rfl⟩
            · obtain ⟨s, rfl⟩ : ∃ s, t = s + 1 := ⟨t - 1, by omega⟩
              have hy := Hcells.out s (by omega)
              have e := lev_back (t := s) (by omega) hlr
              have hle := lev_drop_le (r.take (j + 1)) s
              generalize r[s]'(by omega) = y at *
              have hy2 := UInt8.toNat_lt y
              generalize hacc : lev ((r.take (j + 1)).drop (s + 1)) = acc at *
              have ee : ((s + 1 : Nat) : Int) - 1 = (s : Int) := by omega
              rw [ee]
              have hb1 : (acc : Int) * 128 + (y.toNat : Int) % 128 ≤ 18446744073709551615 := by omega
              have hb2 : (acc : Int) * 128 ≤ 18446744073709551615 := by omega
              have Hv : Hid ((acc : Int) * 128 + (y.toNat : Int) % 128 = ((lev ((r.take (j + 1)).drop s) : Nat) : Int)) := by rw [e]; show _ = _; omega
              have Hle := Lib.hid hle
              clear e hle hacc ee hmax
              go_wp2
              go_round
              case rel => exact ⟨s, by omega, by go_num, by rw [Hv.out]⟩
              case measure => simp [intOf]
    · have Hfin := Lib.hid (readAt_h1 hh.out (by rw [Hl.out]; omega))
      go_wp2
      go_ret3
      rw [Hfin.out]; exact ⟨rfl, rfl⟩

/-- U of the reference. -/
theorem v_calls (w : World) {B : Nat} {A : Option Addr} {n c : Nat} {l : List UInt8} (hb : Bytes w B A n l) (at_ : Int) (hm : n ≤ 9223372036854775807) :
    Calls Tryz.prog 119 #[.slice A n c, .int .i64 at_] w (RetU w (readU l at_)) := by
  unfold readU
  rw [hb.1]
  by_cases h : at_ < 0 ∨ (n : Int) ≤ at_
  · rw [if_pos h]; exact v_out w at_ h
  · rw [if_neg h]
    obtain ⟨k, rfl⟩ := Int.eq_ofNat_of_zero_le (show 0 ≤ at_ by omega)
    exact v_in w hb k (by omega) hm

theorem readU_max (l : List UInt8) (at_ : Int) : (readU l at_).1 ≤ 18446744073709551615 ∧ (readU l at_).2.1 ≤ 10 := by
  unfold readU; split
  · simp
  · exact ⟨(readAt_max _).1, (readAt_max _).2.1⟩

def RetI (w : World) (r : Nat × Nat × Nat) (e : Ending) (w' : World) : Prop := e = .returned (.tuple #[.int .i64 (if r.2.2 = 0 then zagI r.1 else 0), .int .i64 (r.2.1 : Nat), .int .i64 (r.2.2 : Nat)]) ∧ w = w'

theorem readAt_err (r : List UInt8) (h : (readAt r).2.2 ≠ 0) : (readAt r).1 = 0 ∧ (readAt r).2.1 = 0 := by
  unfold readAt at *
  by_cases h2 : r.length ≤ headsF 9 r
  · rw [if_pos h2]; exact ⟨rfl, rfl⟩
  · rw [if_neg h2] at h ⊢
    split
    · exact ⟨rfl, rfl⟩
    · rename_i h3
      rw [if_neg h3] at h
      exact absurd rfl h
theorem readU_err (l : List UInt8) (at_ : Int) (h : (readU l at_).2.2 ≠ 0) : (readU l at_).1 = 0 ∧ (readU l at_).2.1 = 0 := by
  unfold readU at *
  by_cases h1 : at_ < 0 ∨ (l.length : Int) ≤ at_
  · rw [if_pos h1]; exact ⟨rfl, rfl⟩
  · rw [if_neg h1] at h ⊢
    exact readAt_err _ h

end Go.Proofs.YtjbmlhipjceeeaaGreat.Nu

namespace Go.Proofs.YtjbmlhipjceeeaaGreat.Nu
set_option linter.unusedVariables false
set_option linter.unusedSimpArgs false
open Go.RowKit

/-- Block g is a cursor (of type t) over the bytes l (which lie below block B), at place k, with error e. -/
def Cur (t : TypeId) (w : World) (g B : Nat) (l : List UInt8) (k e : Nat) : Prop :=
  ∃ A c, Blk w g t #[.slice A l.length c, .int .i64 (k : Int), .int .i64 (e : Int)] ∧ l.length ≤ c ∧ c ≤ maxLen ∧ (Bytes w B A l.length l ∧ B ≤ g) ∧ k ≤ l.length

theorem Cur.drewN {t : TypeId} {w : World} {g B : Nat} {l : List UInt8} {k e : Nat} (h : Cur t w g B l k e) (n : Nat) : Cur t (w.drewN n) g B l k e := h
theorem Cur.lt {t : TypeId} {w : World} {g B : Nat} {l : List UInt8} {k e : Nat} (h : Cur t w g B l k e) : g < w.heap.size := by
  obtain ⟨A, c, hb, -⟩ := h
  exact hb.lt
theorem Cur.bd {t : TypeId} {w : World} {g B : Nat} {l : List UInt8} {k e : Nat} (h : Cur t w g B l k e) : B ≤ g := by
  obtain ⟨A, c, hb, -, -, h1, -⟩ := h
  exact h1.2
theorem Cur.far {t : TypeId} {w w' : World} {g g' B : Nat} {l : List UInt8} {k e : Nat} (h : Cur t w g B l k e) (ho : Only g' w w') (hne : g ≠ g') (hB : B ≤ g') : Cur t w' g B l k e := by
  have hlt := h.lt
  obtain ⟨A, c, hb, hc, hm, ⟨hby, hBg⟩, hk⟩ := h
  exact ⟨A, c, ho.blk hb hne, hc, hm, ⟨hby.only ho hB (by omega), hBg⟩, hk⟩
theorem Cur.below {t : TypeId} {w w' : World} {g B : Nat} {l : List UInt8} {k e : Nat} (h : Cur t w g B l k e) (hb : Below w.heap.size w w') : Cur t w' g B l k e := by
  have hlt := h.lt
  obtain ⟨A, c, hbk, hc, hm, ⟨hby, hBg⟩, hk⟩ := h
  exact ⟨A, c, hbk.below hb hlt, hc, hm, ⟨hby.below (hb.mono (by omega)), hBg⟩, hk⟩

def curU (l : List UInt8) (k e : Nat) : Nat × Nat × Nat := if e ≠ 0 then (0, k, e) else ((readU l k).1, k + (readU l k).2.1, (readU l k).2.2)

theorem readU_fits (l : List UInt8) (k : Nat) (hk : k ≤ l.length) : k + (readU l k).2.1 ≤ l.length := by
  unfold readU
  split
  · simpa using hk
  · have := (readAt_max (l.drop (k : Int).toNat)).2.2
    simp only [Int.toNat_natCast, List.length_drop] at *
    omega

/-- A method's end: the value, the cursor's new state, and that nothing else has turned. -/
def CurRet (t : TypeId) (w : World) (g B : Nat) (l : List UInt8) (v : Value) (k e : Nat) (en : Ending) (w' : World) : Prop := en = .returned v ∧ Cur t w' g B l k e ∧ Only g w w'

theorem over_calls (w : World) {g B k e : Nat} {l : List UInt8} (h : Cur 125 w g B l k e) :
    Calls Tryz.prog 96 #[.pointer (some ⟨g, 0, none⟩)] w fun en w' => en = .returned (.bool (decide (e ≠ 0))) ∧ w = w' := by
  obtain ⟨A, c, hb, -⟩ := h
  have c2 := hb.cell 2
  clear hb
  by_cases he : e = 0
  · subst he
    go_enter Tryz.func96, Tryz.ntmps96
    go_wp2
    go_ret
    exact ⟨rfl, rfl⟩
  · have q : ((e : Int) != 0) = true := net (by omega)
    go_enter Tryz.func96, Tryz.ntmps96
    go_wp2
    go_ret
    exact ⟨by simp [he], rfl⟩

theorem over_nil (w : World) :
    Calls Tryz.prog 96 #[.pointer none] w fun en w' => en = .returned (.bool true) ∧ w = w' := by
  go_enter Tryz.func96, Tryz.ntmps96
  go_wp2
  go_ret
  exact ⟨rfl, rfl⟩

set_option maxRecDepth 100000 in
set_option maxHeartbeats 400000 in
theorem curU_calls (w : World) {g B k e : Nat} {l : List UInt8} (h : Cur 125 w g B l k e) (hl : l.length ≤ 1000000000000000) :
    Calls Tryz.prog 97 #[.pointer (some ⟨g, 0, none⟩)] w (CurRet 125 w g B l (.int .u64 ((curU l k e).1 : Nat)) (curU l k e).2.1 (curU l k e).2.2) := by
  have hov := over_calls w h
  unfold curU
  by_cases he : e = 0
  · subst he
    rw [if_neg (by omega)]
    have hf := readU_fits l k h.choose_spec.choose_spec.2.2.2.2
    obtain ⟨A, c, hb, hc, hm, ⟨hby, hBg⟩, hk⟩ := h
    have c0 := hb.cell 0
    have c1 := hb.cell 1
    have c2 := hb.cell 2
    have f1 := hb.frozen 1
    have f2 := hb.frozen 2
    simp only [List.getElem?_toArray, List.getElem?_cons_zero, List.getElem?_cons_succ] at c0 c1 c2
    have Hov := Lib.hid hov; clear hov
    go_enter Tryz.func97, Tryz.ntmps97
    go_wp2_with fail
    refine Hov.out.mono ?_
    rintro en w' ⟨rfl, rfl⟩
    go_wp2_with fail
    go_region_held3 (fun w' => w'.cell? ⟨g, 0, none⟩ = some (.slice A l.length c) ∧ w'.cell? ⟨g, 1, none⟩ = some (.int .i64 (k : Int))) (go_keep) ((go_at_call 118; refine (u_calls _ hby.drew k hc (by omega)).mono ?_; rintro en w1 ⟨rfl, rfl⟩))
    generalize readU l (k : Int) = r at *
    obtain ⟨x, j, e⟩ := r
    simp only at hf
    have hg := hb.lt
    go_wp2
    go_ret
    refine ⟨rfl, ⟨A, c, ?_, hc, hm, ⟨hby.only (((Only.refl g w).drew.setCell (.inl rfl) _).setCell (.inl rfl) _) hBg (by omega), hBg⟩, hf⟩, ((Only.refl g w).drew.setCell (.inl rfl) _).setCell (.inl rfl) _⟩
    rw [Int.natCast_add]
    exact (hb.drew.set_ 1 _).set_ 2 _
  · rw [if_pos he]
    rw [decide_eq_true he] at hov
    have Hov := Lib.hid hov; clear hov he
    go_enter Tryz.func97, Tryz.ntmps97
    go_wp2_with fail
    refine Hov.out.mono ?_
    rintro en w' ⟨rfl, rfl⟩
    go_wp2
    go_ret
    exact ⟨rfl, h, Only.refl g _⟩

theorem fail_calls (w : World) {g B k e : Nat} {l : List UInt8} (h : Cur 125 w g B l k e) (k' e' : Nat) (hk : k' ≤ l.length) :
    Calls Tryz.prog 98 #[.pointer (some ⟨g, 0, none⟩), .int .i64 (k' : Int), .int .i64 (e' : Int)] w (CurRet 125 w g B l (.tuple #[]) k' e') := by
  obtain ⟨A, c, hb, hc, hm, ⟨hby, hBg⟩, -⟩ := h
  have c1 := hb.cell 1
  have c2 := hb.cell 2
  have f1 := hb.frozen 1
  have f2 := hb.frozen 2
  have hg := hb.lt
  simp only [List.getElem?_toArray, List.getElem?_cons_zero, List.getElem?_cons_succ] at c1 c2
  go_enter Tryz.func98, Tryz.ntmps98
  go_wp2
  go_end0
  exact ⟨rfl, ⟨A, c, (hb.set_ 1 _).set_ 2 _, hc, hm, ⟨hby.only (((Only.refl g w).setCell (.inl rfl) _).setCell (.inl rfl) _) hBg (by omega), hBg⟩, hk⟩, ((Only.refl g w).setCell (.inl rfl) _).setCell (.inl rfl) _⟩

theorem curU_nil (w : World) :
    Calls Tryz.prog 97 #[.pointer none] w fun en w' => en = .returned (.int .u64 0) ∧ w = w' := by
  go_enter Tryz.func97, Tryz.ntmps97
  go_wp2_with fail
  refine (over_nil w).mono ?_
  rintro en w' ⟨rfl, rfl⟩
  go_wp2
  go_ret
  exact ⟨rfl, rfl⟩

theorem curU_max (l : List UInt8) (k e : Nat) : (curU l k e).1 ≤ 18446744073709551615 := by
  unfold curU; split
  · simp
  · exact (readU_max l k).1



def curEnd (l : List UInt8) (k e : Nat) : Nat := if e ≠ 0 then e else if k < l.length then 5 else 0
set_option maxRecDepth 100000 in
theorem end_calls (w : World) {g B k e : Nat} {l : List UInt8} (h : Cur 125 w g B l k e) :
    Calls Tryz.prog 65 #[.pointer (some ⟨g, 0, none⟩)] w fun en w' => en = .returned (.int .i64 (curEnd l k e : Nat)) ∧ ∃ n, w' = w.drewN n := by
  obtain ⟨A, c, hb, -⟩ := h
  have c0 := hb.cell 0
  have c1 := hb.cell 1
  have c2 := hb.cell 2
  clear hb
  simp only [List.getElem?_toArray, List.getElem?_cons_zero, List.getElem?_cons_succ] at c0 c1 c2
  unfold curEnd
  by_cases he : e = 0
  · subst he
    rw [if_neg (by omega)]
    by_cases hk : k < l.length
    · rw [if_pos hk]
      go_enter Tryz.func65, Tryz.ntmps65
      go_wp2_with fail
      go_region_held3 (fun w' => w'.cell? ⟨g, 0, none⟩ = some (.slice A l.length c) ∧ w'.cell? ⟨g, 1, none⟩ = some (.int .i64 (k : Int))) (go_keep) (fail)
      go_wp2
      go_ret
      exact ⟨rfl, 1, rfl⟩
    · rw [if_neg hk]
      go_enter Tryz.func65, Tryz.ntmps65
      go_wp2_with fail
      go_region_held3 (fun w' => w'.cell? ⟨g, 0, none⟩ = some (.slice A l.length c) ∧ w'.cell? ⟨g, 1, none⟩ = some (.int .i64 (k : Int))) (go_keep) (fail)
      go_wp2
      go_ret
      exact ⟨rfl, 1, rfl⟩
  · have q : ((e : Int) != 0) = true := net (by omega)
    rw [if_pos he]
    clear he
    go_enter Tryz.func65, Tryz.ntmps65
    go_wp2
    go_ret
    exact ⟨rfl, 0, rfl⟩
theorem end_nil (w : World) :
    Calls Tryz.prog 65 #[.pointer none] w fun en w' => en = .returned (.int .i64 1) ∧ w = w' := by
  go_enter Tryz.func65, Tryz.ntmps65
  go_wp2
  go_ret
  exact ⟨rfl, rfl⟩

theorem curEnd_2' {l : List UInt8} {k : Nat} (h : ¬ k < l.length) : curEnd l k 0 = 0 := by unfold curEnd; rw [if_neg (by omega), if_neg h]

/-- New: a cursor over a copy of the bytes, in new memory. -/
theorem new_full (w : World) {B : Nat} {A : Option Addr} {n c : Nat} {l : List UInt8} (h : Bytes w B A n l) (hB : B ≤ w.heap.size) (hn : n ≤ 140737488355328) :
    Calls Tryz.prog 60 #[.slice A n c] w fun en w' => ∃ g A' c', en = .returned (.pointer (some ⟨g, 0, none⟩)) ∧ Blk w' g 125 #[.slice A' l.length c', .int .i64 0, .int .i64 0] ∧ l.length ≤ c' ∧ c' ≤ maxLen ∧
      w'.ownsRow w.heap.size 5 1 (.slice A' l.length c') l.length (l.map byteV) ∧ Bytes w' g A' l.length l ∧ Below w.heap.size w w' ∧ w.heap.size ≤ g := by
  have hl := h.1
  subst hl
  go_enter Tryz.func60, Tryz.ntmps60
  go_wp2_with (at_builtin; go_must (refine wpList_append_sl _ rfl (.tmp 3) (.tmp 4) _ rfl w.heap.size 5 _ 1 1 Tryz.underlying46 Tryz.infoU8 rfl (by omega) _ _ _ rfl (World.ownsRow_made w #[] 0 (Nat.le_refl _) (Nat.zero_le _) rfl) B A l.length c (l.map byteV) rfl (h.to ((Below.refl B w).alloc hB _) (Nat.le_refl _)).2 (byteV_one l) (by unfold maxLen; omega) (by omega) (by simp) ?_))
  intro A1 c1 w1 hc1 hm1 hr hbel hown _ _
  have hb1 : Below w.heap.size w w1 := ((Below.refl _ _).alloc (Nat.le_refl _) _).trans hbel
  have Hown := Lib.hid hown
  clear hown
  go_wp2
  go_ret
  have hr2 : Bytes (w1.alloc (.cells #[.slice A1 l.length c1, .int .i64 0, .int .i64 0] 125)) w1.heap.size A1 l.length l := Bytes.of ((hr.alloc (Nat.le_refl _) _))
  have hown2 := Hown.out.alloc (.cells #[.slice A1 l.length c1, .int .i64 0, .int .i64 0] 125)
  exact ⟨w1.heap.size, A1, c1, rfl, Blk.new _ _ _, hc1, hm1, hown2, hr2, hb1.alloc hb1.size _, hb1.size⟩
theorem new_calls (w : World) {B : Nat} {A : Option Addr} {n c : Nat} {l : List UInt8} (h : Bytes w B A n l) (hB : B ≤ w.heap.size) (hn : n ≤ 140737488355328) :
    Calls Tryz.prog 60 #[.slice A n c] w fun en w' => ∃ g, en = .returned (.pointer (some ⟨g, 0, none⟩)) ∧ Cur 125 w' g g l 0 0 ∧ Below w.heap.size w w' ∧ w.heap.size ≤ g :=
  (new_full w h hB hn).mono fun _ _ ⟨g, A', c', he, hb, hc, hm, _, hby, hbel, hg⟩ => ⟨g, he, ⟨A', c', hb, hc, hm, ⟨hby, Nat.le_refl _⟩, Nat.zero_le _⟩, hbel, hg⟩
end Go.Proofs.YtjbmlhipjceeeaaGreat.Nu

namespace Go.Proofs.YtjbmlhipjceeeaaGreat.Nu
set_option linter.unusedVariables false
set_option linter.unusedSimpArgs false
open Go.RowKit

def curNum (l : List UInt8) (k e : Nat) (most : Int) : Nat × Nat × Nat :=
  if e ≠ 0 then (0, k, e) else
  if (curU l k e).2.2 ≠ 0 then (0, (curU l k e).2.1, (curU l k e).2.2)
  else if most < 0 ∨ most < ((curU l k e).1 : Int) then (0, k, 2) else curU l k e

theorem curNum_err {l : List UInt8} {k e : Nat} {most : Int} (h : e ≠ 0) : curNum l k e most = (0, k, e) := by unfold curNum; rw [if_pos h]
theorem curNum_1 {l : List UInt8} {k u k1 e1 : Nat} {most : Int} (hr : curU l k 0 = (u, k1, e1)) (h : e1 ≠ 0) : curNum l k 0 most = (0, k1, e1) := by
  unfold curNum; rw [if_neg (by omega), hr, if_pos h]
theorem curNum_2 {l : List UInt8} {k u k1 : Nat} {most : Int} (hr : curU l k 0 = (u, k1, 0)) (h : most < 0 ∨ most < (u : Int)) : curNum l k 0 most = (0, k, 2) := by
  unfold curNum; rw [if_neg (by omega), hr, if_neg (by simp), if_pos h]
theorem curNum_3 {l : List UInt8} {k u k1 : Nat} {most : Int} (hr : curU l k 0 = (u, k1, 0)) (h : ¬ (most < 0 ∨ most < (u : Int))) : curNum l k 0 most = (u, k1, 0) := by
  unfold curNum; rw [if_neg (by omega), hr, if_neg (by simp), if_neg h]

theorem u64_in {x : Int} (h0 : 0 ≤ x) (h1 : x ≤ 18446744073709551615) : IntKind.u64.wrap x = x := by rw [IntKind.wrap_u64]; omega

theorem cells3 {w : World} {g : Nat} {t : TypeId} {a b c : Value} (h : Blk w g t #[a, b, c]) :
    w.cell? ⟨g, 0, none⟩ = some a ∧ w.cell? ⟨g, 1, none⟩ = some b ∧ w.cell? ⟨g, 2, none⟩ = some c :=
  ⟨h.cell 0, h.cell 1, h.cell 2⟩

set_option maxRecDepth 100000 in
set_option maxHeartbeats 400000 in
theorem curNum_calls (w : World) {g B k e : Nat} {l : List UInt8} (h : Cur 125 w g B l k e) (hl : l.length ≤ 1000000000000000) (most : Int) (hm : most ≤ 9223372036854775807) :
    Calls Tryz.prog 62 #[.pointer (some ⟨g, 0, none⟩), .int .i64 most] w (CurRet 125 w g B l (.int .i64 ((curNum l k e most).1 : Nat)) (curNum l k e most).2.1 (curNum l k e most).2.2) := by
  have hov := over_calls w h
  by_cases he : e = 0
  · subst he
    have Hov := Lib.hid hov; clear hov
    have hmax := curU_max l k 0
    have Hu := Lib.hid (curU_calls w h hl)
    obtain ⟨A, c, hb, hc, hm', ⟨hby, hBg⟩, hk⟩ := h
    obtain ⟨c0, c1, c2⟩ := cells3 hb
    generalize hr : curU l k 0 = r at *
    obtain ⟨u, k1, e1⟩ := r
    simp only at hmax
    have Hr := Lib.hid hr
    clear hr
    go_enter Tryz.func62, Tryz.ntmps62
    go_wp2_with fail
    refine Hov.out.mono ?_
    rintro en w' ⟨rfl, rfl⟩
    go_wp2_with fail
    refine Hu.out.mono ?_
    rintro en w1 ⟨rfl, h1, ho⟩
    have h1' := h1
    obtain ⟨A1, cc1, hb1, -⟩ := h1
    obtain ⟨d0, d1, d2⟩ := cells3 hb1
    clear c0 c1 c2 hb1
    by_cases he1 : e1 = 0
    · subst he1
      by_cases hbad : most < 0 ∨ most < (u : Int)
      · have Hfin := Lib.hid (curNum_2 Hr.out hbad)
        have Hf := Lib.hid (fail_calls w1 h1' k 2 hk)
        by_cases hneg : most < 0
        · clear hbad
          go_wp2_with fail
          refine Hf.out.mono ?_
          rintro en w2 ⟨rfl, h2, ho2⟩
          have h2' := h2
          obtain ⟨A2, cc2, hb2, -⟩ := h2
          obtain ⟨f0, f1, f2⟩ := cells3 hb2
          clear hb2
          go_wp2
          go_ret
          rw [Hfin.out]
          exact ⟨rfl, h2', ho.trans ho2⟩
        · have hgt : most < (u : Int) := by omega
          have hw : IntKind.u64.wrap most = most := u64_in (by omega) (by omega)
          clear hbad
          go_wp2_with fail
          refine Hf.out.mono ?_
          rintro en w2 ⟨rfl, h2, ho2⟩
          have h2' := h2
          obtain ⟨A2, cc2, hb2, -⟩ := h2
          obtain ⟨f0, f1, f2⟩ := cells3 hb2
          clear hb2
          go_wp2
          go_ret
          rw [Hfin.out]
          exact ⟨rfl, h2', ho.trans ho2⟩
      · have Hfin := Lib.hid (curNum_3 Hr.out hbad)
        have hu2 : (u : Int) ≤ 9223372036854775807 := by omega
        have hneg : ¬ most < 0 := by omega
        have hgt : ¬ most < (u : Int) := by omega
        have hw : IntKind.u64.wrap most = most := u64_in (by omega) (by omega)
        clear hbad
        go_wp2
        go_ret
        rw [Hfin.out]
        exact ⟨rfl, h1', ho⟩
    · have Hfin := Lib.hid (curNum_1 (most := most) Hr.out he1)
      have q1 : ((e1 : Int) == 0) = false := eqf (by omega)
      have q2 : ((e1 : Int) != 0) = true := net (by omega)
      clear he1
      go_wp2
      go_ret
      rw [Hfin.out]
      exact ⟨rfl, h1', ho⟩
  · rw [curNum_err he]
    rw [decide_eq_true he] at hov
    have Hov := Lib.hid hov; clear hov he
    go_enter Tryz.func62, Tryz.ntmps62
    go_wp2_with fail
    refine Hov.out.mono ?_
    rintro en w' ⟨rfl, rfl⟩
    go_wp2
    go_ret
    exact ⟨rfl, h, Only.refl g _⟩

theorem num_nil (w : World) (most : Int) :
    Calls Tryz.prog 62 #[.pointer none, .int .i64 most] w fun en w' => en = .returned (.int .i64 0) ∧ w = w' := by
  go_enter Tryz.func62, Tryz.ntmps62
  go_wp2_with fail
  refine (over_nil w).mono ?_
  rintro en w' ⟨rfl, rfl⟩
  go_wp2
  go_ret
  exact ⟨rfl, rfl⟩

def curBytes (l : List UInt8) (k e : Nat) (n : Int) : List UInt8 × Nat × Nat :=
  if e ≠ 0 then ([], k, e) else if n < 0 ∨ (l.length : Int) - (k : Int) < n then ([], k, 3) else ((l.drop k).take n.toNat, k + n.toNat, 0)

def CurRetB (t : TypeId) (w : World) (g B : Nat) (l : List UInt8) (bs : List UInt8) (k e : Nat) (en : Ending) (w' : World) : Prop :=
  ∃ A c, en = .returned (.slice A bs.length c) ∧ bs.length ≤ c ∧ c ≤ maxLen ∧ w'.ownsRow w.heap.size 5 1 (.slice A bs.length c) bs.length (bs.map byteV) ∧ Cur t w' g B l k e ∧ Only g w w'

theorem bytes_nil_ {w : World} {B : Nat} {A : Option Addr} : Bytes w B A 0 [] := ⟨rfl, Reads.none_⟩

set_option maxRecDepth 100000 in
set_option maxHeartbeats 400000 in
theorem curBytes_calls (w : World) {g B k e : Nat} {l : List UInt8} (h : Cur 125 w g B l k e) (hl : l.length ≤ 140737488351232) (n : Int) (hn : n ≤ 9223372036854775807) :
    Calls Tryz.prog 63 #[.pointer (some ⟨g, 0, none⟩), .int .i64 n] w (CurRetB 125 w g B l (curBytes l k e n).1 (curBytes l k e n).2.1 (curBytes l k e n).2.2) := by
  have hov := over_calls w h
  unfold curBytes
  by_cases he : e = 0
  · rw [if_neg (by omega)]
    subst he
    have Hov := Lib.hid hov; clear hov
    have h' := h
    obtain ⟨A, c, hb, hc, hm', ⟨hby, hBg⟩, hk⟩ := h
    obtain ⟨c0, c1, c2⟩ := cells3 hb
    have f1 := hb.frozen 1
    have hg := hb.lt
    by_cases hneg : n < 0
    · rw [if_pos (.inl hneg)]
      have Hf := Lib.hid (fun wx (hx : Cur 125 wx g B l k 0) => fail_calls wx hx k 3 hk)
      go_enter Tryz.func63, Tryz.ntmps63
      go_wp2_with fail
      refine Hov.out.mono ?_
      rintro en w' ⟨rfl, rfl⟩
      go_wp2_with fail
      go_quiet (fail)
      go_wp2_with fail
      refine (Hf.out _ ⟨A, c, hb.drewN _, hc, hm', ⟨hby.drewN _, hBg⟩, hk⟩).mono ?_
      rintro en w2 ⟨rfl, h2, ho2⟩
      go_wp2
      go_ret
      exact ⟨none, 0, rfl, Nat.le_refl _, Nat.zero_le _, World.ownsRow_nil _ _ _ _, h2, ((Only.refl g w).drewN _).trans ho2⟩
    · by_cases hgt : (l.length : Int) - (k : Int) < n
      · rw [if_pos (.inr hgt)]
        have Hf := Lib.hid (fun wx (hx : Cur 125 wx g B l k 0) => fail_calls wx hx k 3 hk)
        have hgd : decide (n < 0) = false := dcf hneg
        go_enter Tryz.func63, Tryz.ntmps63
        go_wp2_with fail
        refine Hov.out.mono ?_
        rintro en w' ⟨rfl, rfl⟩
        go_wp2_with fail
        go_quiet (fail)
        go_wp2_with fail
        refine (Hf.out _ ⟨A, c, hb.drewN _, hc, hm', ⟨hby.drewN _, hBg⟩, hk⟩).mono ?_
        rintro en w2 ⟨rfl, h2, ho2⟩
        go_wp2
        go_ret
        exact ⟨none, 0, rfl, Nat.le_refl _, Nat.zero_le _, World.ownsRow_nil _ _ _ _, h2, ((Only.refl g w).drewN _).trans ho2⟩
      · rw [if_neg (by omega)]
        obtain ⟨m, rfl⟩ := Int.eq_ofNat_of_zero_le (show 0 ≤ n by omega)
        rw [Int.toNat_natCast]
        have hgd : decide ((m : Int) < 0) = false := dcf hneg
        have hmk : m ≤ l.length - k := by omega
        clear hneg hgt
        go_enter Tryz.func63, Tryz.ntmps63
        go_wp2_with fail
        refine Hov.out.mono ?_
        rintro en w' ⟨rfl, rfl⟩
        go_wp2_with fail
        go_quiet (fail)
        go_wp2_with fail
        have hb2 := (hb.drewN nq).set_ 1 (.int .i64 ((k : Int) + (m : Int)))
        have ho2 : Only g w ((w.drewN nq).setCell ⟨g, 1, none⟩ (.int .i64 ((k : Int) + (m : Int)))) := ((Only.refl g w).drewN nq).setCell (.inl rfl) _
        generalize (w.drewN nq).setCell ⟨g, 1, none⟩ (.int .i64 ((k : Int) + (m : Int))) = w2 at *
        have hby2 := hby.only ho2 hBg (by omega)
        obtain ⟨d0, d1, d2⟩ := cells3 (a := .slice A l.length c) (b := .int .i64 ((k : Int) + (m : Int))) (c := .int .i64 0) hb2
        have hs := ho2.size
        have i1 : (k : Int) + (m : Int) ≤ (c : Int) := by omega
        have i2 : (0 : Int) ≤ (k : Int) := by omega
        have i3 : (k : Int) ≤ (k : Int) + (m : Int) := by omega
        have i4 : IntKind.i64.wrap ((k : Int) + (m : Int) - (m : Int)) = (k : Int) := by
          rw [IntKind.wrap_i64]; omega
        have hlen : ((l.drop k).take m).length = m := by simp; omega
        have i5 : IntKind.i64.wrap (k : Int) = (k : Int) := by rw [IntKind.wrap_i64]; omega
        have i6 : (0 : Int) ≤ (k : Int) + (m : Int) := by omega
        have i7 : ((k : Int) + (m : Int)).toNat = k + m := by omega
        clear c0 c1 c2 f1 h' hb
        have hd := (Below.refl w2.heap.size w2).drew.alloc (Nat.le_refl _) (.cells #[] 5)
        have hg2 : g < w2.heap.size := by omega
        by_cases hck : c = k
        · have hm0 : m = 0 := by omega
          subst hm0
          subst hck
          go_region_held3 (fun w' => w'.cell? ⟨g, 0, none⟩ = some (.slice A l.length c) ∧ w'.cell? ⟨g, 1, none⟩ = some (.int .i64 ((c : Int) + ((0 : Nat) : Int)))) (go_keep) ((refine step_append_sl _ rfl (.tmp 37) (.tmp 52) _ rfl w2.heap.size 5 _ 1 1 Tryz.underlying46 Tryz.infoU8 rfl (by omega) _ _ _ rfl (World.ownsRow_made w2.drew #[] 0 (Nat.le_refl _) (Nat.zero_le _) rfl) 0 _ 0 _ [] rfl Reads.none_ (by simp) (by unfold maxLen; omega) (by omega) (by simp) ?_; intro A5 c5 w5 hc5 hm5 hr5 hbel5 hown5 hgr5 hat5; have e0 : w5.cell? ⟨g, 0, none⟩ = some (.slice A l.length c) := ((hd.trans hbel5).cell (p := ⟨g, 0, none⟩) hg2).trans d0; have e1 : w5.cell? ⟨g, 1, none⟩ = some (.int .i64 ((c : Int) + ((0 : Nat) : Int))) := ((hd.trans hbel5).cell (p := ⟨g, 1, none⟩) hg2).trans d1))
          go_wp2
          go_ret
          have b5 := hd.trans hbel5
          have hby5 := And.intro (hby2.to (b5.mono (by omega)) (Nat.le_refl _)) hBg
          have hnil : (l.drop c).take 0 = [] := rfl
          rw [hnil]
          refine ⟨A5, c5, rfl, by simp, hm5, by simpa using own_base hown5 (show w.heap.size ≤ w2.heap.size by omega), ⟨A, c, ?_, hc, hm', hby5, by omega⟩, ho2.trans (Only.of_below b5)⟩
          rw [Int.natCast_add]; exact hb2.below b5 hg2
        · have hby3 := (hby2.cutted hk hc).taken hmk
          rw [if_neg hck] at hby3
          have hr3 := (hby3.to (hd.mono (by omega)) (Nat.le_refl _)).2
          clear hby3
          go_region_held3 (fun w' => w'.cell? ⟨g, 0, none⟩ = some (.slice A l.length c) ∧ w'.cell? ⟨g, 1, none⟩ = some (.int .i64 ((k : Int) + (m : Int)))) (go_keep) ((refine step_append_sl _ rfl (.tmp 37) (.tmp 52) _ rfl w2.heap.size 5 _ 1 1 Tryz.underlying46 Tryz.infoU8 rfl (by omega) _ _ _ rfl (World.ownsRow_made w2.drew #[] 0 (Nat.le_refl _) (Nat.zero_le _) rfl) B _ m (c - k) (((l.drop k).take m).map byteV) rfl hr3 (byteV_one _) (by unfold maxLen; omega) (by omega) (by simp) ?_; intro A5 c5 w5 hc5 hm5 hr5 hbel5 hown5 hgr5 hat5; have e0 : w5.cell? ⟨g, 0, none⟩ = some (.slice A l.length c) := ((hd.trans hbel5).cell (p := ⟨g, 0, none⟩) hg2).trans d0; have e1 : w5.cell? ⟨g, 1, none⟩ = some (.int .i64 ((k : Int) + (m : Int))) := ((hd.trans hbel5).cell (p := ⟨g, 1, none⟩) hg2).trans d1))
          go_wp2
          go_ret
          have b5 := hd.trans hbel5
          have hby5 := And.intro (hby2.to (b5.mono (by omega)) (Nat.le_refl _)) hBg
          refine ⟨A5, c5, (congrArg (fun x => Ending.returned (.slice A5 x c5)) hlen).symm, by omega, hm5, ?_, ⟨A, c, ?_, hc, hm', hby5, by omega⟩, ho2.trans (Only.of_below b5)⟩
          · rw [hlen]; rw [List.nil_append, Nat.zero_add] at hown5; exact own_base hown5 (by omega)
          · rw [Int.natCast_add]; exact hb2.below b5 hg2
  · rw [if_pos he]
    rw [decide_eq_true he] at hov
    have Hov := Lib.hid hov; clear hov he
    go_enter Tryz.func63, Tryz.ntmps63
    go_wp2_with fail
    refine Hov.out.mono ?_
    rintro en w' ⟨rfl, rfl⟩
    go_wp2
    go_ret
    exact ⟨none, 0, rfl, Nat.le_refl _, Nat.zero_le _, World.ownsRow_nil _ _ _ _, h, Only.refl g _⟩

theorem curBytes_nil (w : World) (n : Int) :
    Calls Tryz.prog 63 #[.pointer none, .int .i64 n] w fun en w' => en = .returned (.slice none 0 0) ∧ w = w' := by
  go_enter Tryz.func63, Tryz.ntmps63
  go_wp2_with fail
  refine (over_nil w).mono ?_
  rintro en w' ⟨rfl, rfl⟩
  go_wp2
  go_ret
  exact ⟨rfl, rfl⟩

def curText (l : List UInt8) (k e : Nat) (most : Int) : List UInt8 × Nat × Nat :=
  if e ≠ 0 then ([], k, e)
  else if (curU l k e).2.2 ≠ 0 then ([], (curU l k e).2.1, (curU l k e).2.2)
  else if most < 0 ∨ most < ((curU l k e).1 : Int) then ([], k, 5)
  else if l.length - (curU l k e).2.1 < (curU l k e).1 then ([], k, 3)
  else ((l.drop (curU l k e).2.1).take (curU l k e).1, (curU l k e).2.1 + (curU l k e).1, 0)

theorem curText_err {l : List UInt8} {k e : Nat} {most : Int} (h : e ≠ 0) : curText l k e most = ([], k, e) := by unfold curText; rw [if_pos h]
theorem curText_1 {l : List UInt8} {k u k1 e1 : Nat} {most : Int} (hr : curU l k 0 = (u, k1, e1)) (h : e1 ≠ 0) : curText l k 0 most = ([], k1, e1) := by
  unfold curText; rw [if_neg (by omega), hr, if_pos h]
theorem curText_2 {l : List UInt8} {k u k1 : Nat} {most : Int} (hr : curU l k 0 = (u, k1, 0)) (h : most < 0 ∨ most < (u : Int)) : curText l k 0 most = ([], k, 5) := by
  unfold curText; rw [if_neg (by omega), hr, if_neg (by simp), if_pos h]
theorem curText_3 {l : List UInt8} {k u k1 : Nat} {most : Int} (hr : curU l k 0 = (u, k1, 0)) (h : ¬ (most < 0 ∨ most < (u : Int))) (h2 : l.length - k1 < u) : curText l k 0 most = ([], k, 3) := by
  unfold curText; rw [if_neg (by omega), hr, if_neg (by simp), if_neg h, if_pos h2]
theorem curText_4 {l : List UInt8} {k u k1 : Nat} {most : Int} (hr : curU l k 0 = (u, k1, 0)) (h : ¬ (most < 0 ∨ most < (u : Int))) (h2 : ¬ l.length - k1 < u) : curText l k 0 most = ((l.drop k1).take u, k1 + u, 0) := by
  unfold curText; rw [if_neg (by omega), hr, if_neg (by simp), if_neg h, if_neg h2]
theorem curBytes_ok {l : List UInt8} {k u : Nat} (h : ¬ l.length - k < u) (hk : k ≤ l.length) : curBytes l k 0 (u : Int) = ((l.drop k).take u, k + u, 0) := by
  unfold curBytes; rw [if_neg (by omega), if_neg (by omega), Int.toNat_natCast]

set_option maxRecDepth 100000 in
set_option maxHeartbeats 400000 in
theorem curText_calls (w : World) {g B k e : Nat} {l : List UInt8} (h : Cur 125 w g B l k e) (hl : l.length ≤ 140737488351232) (most : Int) (hm : most ≤ 9223372036854775807) :
    Calls Tryz.prog 64 #[.pointer (some ⟨g, 0, none⟩), .int .i64 most] w (CurRet 125 w g B l (.string ⟨(curText l k e most).1.toArray⟩) (curText l k e most).2.1 (curText l k e most).2.2) := by
  have hov := over_calls w h
  by_cases he : e = 0
  · subst he
    have Hov := Lib.hid hov; clear hov
    have hmax := curU_max l k 0
    have Hu := Lib.hid (curU_calls w h (by omega))
    obtain ⟨A, c, hb, hc, hm', ⟨hby, hBg⟩, hk⟩ := h
    obtain ⟨c0, c1, c2⟩ := cells3 hb
    generalize hr : curU l k 0 = r at *
    obtain ⟨u, k1, e1⟩ := r
    simp only at hmax
    have Hr := Lib.hid hr
    clear hr
    go_enter Tryz.func64, Tryz.ntmps64
    go_wp2_with fail
    refine Hov.out.mono ?_
    rintro en w' ⟨rfl, rfl⟩
    go_wp2_with fail
    refine Hu.out.mono ?_
    rintro en w1 ⟨rfl, h1, ho⟩
    have h1' := h1
    obtain ⟨A1, cc1, hb1, hc1, hm1, ⟨hby1, hBg1⟩, hk1⟩ := h1
    obtain ⟨d0, d1, d2⟩ := cells3 hb1
    clear c0 c1 c2
    by_cases he1 : e1 = 0
    · subst he1
      by_cases hbad : most < 0 ∨ most < (u : Int)
      · have Hfin := Lib.hid (curText_2 Hr.out hbad)
        have Hf := Lib.hid (fail_calls w1 h1' k 5 hk)
        by_cases hneg : most < 0
        · clear hbad
          go_wp2_with fail
          refine Hf.out.mono ?_
          rintro en w2 ⟨rfl, h2, ho2⟩
          go_wp2
          go_ret
          rw [Hfin.out]
          exact ⟨rfl, h2, ho.trans ho2⟩
        · have hgt : most < (u : Int) := by omega
          have hw : IntKind.u64.wrap most = most := u64_in (by omega) (by omega)
          clear hbad
          go_wp2_with fail
          refine Hf.out.mono ?_
          rintro en w2 ⟨rfl, h2, ho2⟩
          go_wp2
          go_ret
          rw [Hfin.out]
          exact ⟨rfl, h2, ho.trans ho2⟩
      · have hu2 : (u : Int) ≤ 9223372036854775807 := by omega
        have hneg : ¬ most < 0 := by omega
        have hgt : ¬ most < (u : Int) := by omega
        have hw : IntKind.u64.wrap most = most := u64_in (by omega) (by omega)
        have Hbad := Lib.hid hbad; clear hbad
        have hw2 : IntKind.u64.wrap ((l.length : Int) - (k1 : Int)) = (l.length : Int) - (k1 : Int) := u64_in (by omega) (by omega)
        have hw3 : IntKind.i64.wrap ((l.length : Int) - (k1 : Int)) = (l.length : Int) - (k1 : Int) := by rw [IntKind.wrap_i64]; omega
        by_cases hlong : l.length - k1 < u
        · have Hfin := Lib.hid (curText_3 Hr.out Hbad.out hlong)
          have hlo : (l.length : Int) - (k1 : Int) < (u : Int) := by omega
          have hf := fun wx (hx : Cur 125 wx g B l k1 0) => fail_calls wx hx k 3 hk
          have Hf := Lib.hid hf
          clear hf
          go_wp2_with fail
          go_region_held3 (fun w' => w'.cell? ⟨g, 0, none⟩ = some (.slice A1 l.length cc1) ∧ w'.cell? ⟨g, 1, none⟩ = some (.int .i64 (k1 : Int))) (go_keep) (fail)
          go_wp2_with fail
          refine (Hf.out _ ⟨A1, cc1, hb1.drew, hc1, hm1, ⟨hby1.drew, hBg1⟩, hk1⟩).mono ?_
          rintro en w2 ⟨rfl, h2, ho2⟩
          go_wp2
          go_ret
          rw [Hfin.out]
          exact ⟨rfl, h2, ho.trans ((Only.refl g w1).drew.trans ho2)⟩
        · have Hfin := Lib.hid (curText_4 Hr.out Hbad.out hlong)
          have hlo : ¬ (l.length : Int) - (k1 : Int) < (u : Int) := by omega
          have hx : Cur 125 w1.drew g B l k1 0 := ⟨A1, cc1, hb1.drew, hc1, hm1, ⟨hby1.drew, hBg1⟩, hk1⟩
          have hbb := curBytes_calls w1.drew hx hl (u : Int) hu2
          rw [curBytes_ok hlong hk1] at hbb
          have Hbb := Lib.hid hbb
          clear hbb hlong
          go_wp2_with fail
          go_region_held3 (fun w' => w'.cell? ⟨g, 0, none⟩ = some (.slice A1 l.length cc1) ∧ w'.cell? ⟨g, 1, none⟩ = some (.int .i64 (k1 : Int))) (go_keep) (fail)
          go_wp2_with fail
          refine Hbb.out.mono ?_
          rintro en w2 ⟨A2, c2, rfl, hc2, hm2, hown2, h2, ho2⟩
          have hby2 := own_bytes hown2
          have kc := hby2.conv Tryz.prog c2 46 5 9 Tryz.underlying46 Tryz.underlying5 Tryz.underlying9
          generalize (l.drop k1).take u = bs at *
          go_wp2
          go_ret
          rw [Hfin.out]
          exact ⟨rfl, h2, ho.trans ((Only.refl g w1).drew.trans ho2)⟩
    · have Hfin := Lib.hid (curText_1 (most := most) Hr.out he1)
      have q2 : ((e1 : Int) != 0) = true := net (by omega)
      clear he1
      go_wp2
      go_ret
      rw [Hfin.out]
      exact ⟨rfl, h1', ho⟩
  · rw [curText_err he]
    rw [decide_eq_true he] at hov
    have Hov := Lib.hid hov; clear hov he
    go_enter Tryz.func64, Tryz.ntmps64
    go_wp2_with fail
    refine Hov.out.mono ?_
    rintro en w' ⟨rfl, rfl⟩
    go_wp2
    go_ret
    exact ⟨rfl, h, Only.refl g _⟩

theorem text_nil (w : World) (most : Int) :
    Calls Tryz.prog 64 #[.pointer none, .int .i64 most] w fun en w' => en = .returned (.string ⟨#[]⟩) ∧ w = w' := by
  go_enter Tryz.func64, Tryz.ntmps64
  go_wp2_with fail
  refine (over_nil w).mono ?_
  rintro en w' ⟨rfl, rfl⟩
  go_wp2
  go_ret
  exact ⟨rfl, rfl⟩
end Go.Proofs.YtjbmlhipjceeeaaGreat.Nu

namespace Go.Proofs.YtjbmlhipjceeeaaGreat.Nu
set_option linter.unusedVariables false
set_option linter.unusedSimpArgs false
open Go.RowKit

set_option maxRecDepth 100000 in
set_option maxHeartbeats 400000 in
theorem rU_calls (w : World) {g B k e : Nat} {l : List UInt8} (h : Cur 100 w g B l k e) (hl : l.length ≤ 1000000000000000) :
    Calls Tryz.prog 99 #[.pointer (some ⟨g, 0, none⟩)] w (CurRet 100 w g B l (.int .u64 ((curU l k e).1 : Nat)) (curU l k e).2.1 (curU l k e).2.2) := by
  unfold curU
  by_cases he : e = 0
  · subst he
    rw [if_neg (by omega)]
    have hf := readU_fits l k h.choose_spec.choose_spec.2.2.2.2
    obtain ⟨A, c, hb, hc, hm, ⟨hby, hBg⟩, hk⟩ := h
    obtain ⟨c0, c1, c2⟩ := cells3 hb
    have f1 := hb.frozen 1
    have f2 := hb.frozen 2
    go_enter Tryz.func99, Tryz.ntmps99
    go_wp2_with fail
    go_region_held3 (fun w' => w'.cell? ⟨g, 0, none⟩ = some (.slice A l.length c) ∧ w'.cell? ⟨g, 1, none⟩ = some (.int .i64 (k : Int))) (go_keep) ((go_at_call 119; refine (v_calls _ hby.drew k (by omega)).mono ?_; rintro en w1 ⟨rfl, rfl⟩))
    generalize readU l (k : Int) = r at *
    obtain ⟨x, j, e⟩ := r
    simp only at hf
    have hg := hb.lt
    go_wp2
    go_ret
    refine ⟨rfl, ⟨A, c, ?_, hc, hm, ⟨hby.only (((Only.refl g w).drew.setCell (.inl rfl) _).setCell (.inl rfl) _) hBg (by omega), hBg⟩, hf⟩, ((Only.refl g w).drew.setCell (.inl rfl) _).setCell (.inl rfl) _⟩
    rw [Int.natCast_add]
    exact (hb.drew.set_ 1 _).set_ 2 _
  · rw [if_pos he]
    have h' := h
    obtain ⟨A, c, hb, -⟩ := h
    obtain ⟨c0, c1, c2⟩ := cells3 hb
    have q : ((e : Int) != 0) = true := net (by omega)
    clear he hb
    go_enter Tryz.func99, Tryz.ntmps99
    go_wp2
    go_ret
    exact ⟨rfl, h', Only.refl g _⟩


theorem curU_err {l : List UInt8} {k e : Nat} (h : e ≠ 0) : curU l k e = (0, k, e) := by unfold curU; rw [if_pos h]

set_option maxRecDepth 100000 in
set_option maxHeartbeats 400000 in
theorem rNum_calls (w : World) {g B k e : Nat} {l : List UInt8} (h : Cur 100 w g B l k e) (hl : l.length ≤ 1000000000000000) (most : Int) (hm : most ≤ 9223372036854775807) :
    Calls Tryz.prog 68 #[.pointer (some ⟨g, 0, none⟩), .int .i64 most] w (CurRet 100 w g B l (.int .i64 ((curNum l k e most).1 : Nat)) (curNum l k e most).2.1 (curNum l k e most).2.2) := by
  have hmax := curU_max l k e
  have Hu := Lib.hid (rU_calls w h hl)
  have hk : k ≤ l.length := h.choose_spec.choose_spec.2.2.2.2
  obtain ⟨A, c, hb, hc, hm', ⟨hby, hBg⟩, -⟩ := h
  obtain ⟨c0, c1, c2⟩ := cells3 hb
  have He := Lib.hid (fun h => curU_err (l := l) (k := k) (e := e) h)
  generalize hr : curU l k e = r at *
  obtain ⟨u, k1, e1⟩ := r
  simp only at hmax
  have Hr := Lib.hid hr
  clear hr
  go_enter Tryz.func68, Tryz.ntmps68
  go_wp2_with fail
  refine Hu.out.mono ?_
  rintro en w1 ⟨rfl, h1, ho⟩
  have h1' := h1
  obtain ⟨A1, cc1, hb1, hc1, hm1, ⟨hby1, hBg1⟩, hk1⟩ := h1
  obtain ⟨d0, d1, d2⟩ := cells3 hb1
  have f1 := hb1.frozen 1
  have f2 := hb1.frozen 2
  have hg1 := hb1.lt
  clear c0 c1 c2
  by_cases he1 : e1 = 0
  · subst he1
    have he : e = 0 := by
      by_cases he : e = 0
      · exact he
      · have := He.out he; injection this with _ h2; injection h2 with _ h3; exact h3.symm ▸ rfl
    subst he
    by_cases hbad : most < 0 ∨ most < (u : Int)
    · have Hfin := Lib.hid (curNum_2 Hr.out hbad)
      have hw : 0 ≤ most → IntKind.u64.wrap most = most := fun h => u64_in h (by omega)
      by_cases hneg : most < 0
      · clear hbad hw
        go_wp2
        go_ret
        rw [Hfin.out]
        exact ⟨rfl, ⟨A1, cc1, (hb1.set_ 1 _).set_ 2 _, hc1, hm1, ⟨hby1.only (((Only.refl g w1).setCell (.inl rfl) _).setCell (.inl rfl) _) hBg1 (by omega), hBg1⟩, hk⟩, ho.trans (((Only.refl g w1).setCell (.inl rfl) _).setCell (.inl rfl) _)⟩
      · have hgt : most < (u : Int) := by omega
        have hw2 := hw (by omega)
        clear hbad hw
        go_wp2
        go_ret
        rw [Hfin.out]
        exact ⟨rfl, ⟨A1, cc1, (hb1.set_ 1 _).set_ 2 _, hc1, hm1, ⟨hby1.only (((Only.refl g w1).setCell (.inl rfl) _).setCell (.inl rfl) _) hBg1 (by omega), hBg1⟩, hk⟩, ho.trans (((Only.refl g w1).setCell (.inl rfl) _).setCell (.inl rfl) _)⟩
    · have Hfin := Lib.hid (curNum_3 Hr.out hbad)
      have hu2 : (u : Int) ≤ 9223372036854775807 := by omega
      have hneg : ¬ most < 0 := by omega
      have hgt : ¬ most < (u : Int) := by omega
      have hw : IntKind.u64.wrap most = most := u64_in (by omega) (by omega)
      clear hbad
      go_wp2
      go_ret
      rw [Hfin.out]
      exact ⟨rfl, h1', ho⟩
  · have Hfin : Hid (curNum l k e most = (0, k1, e1)) := by
      by_cases he : e = 0
      · subst he; exact curNum_1 Hr.out he1
      · have := He.out he
        injection this with _ h2; injection h2 with h3 h4
        subst h3 h4; exact curNum_err he
    have q2 : ((e1 : Int) != 0) = true := net (by omega)
    clear he1
    go_wp2
    go_ret
    rw [Hfin.out]
    exact ⟨rfl, h1', ho⟩

theorem curBytes_err {l : List UInt8} {k e : Nat} {n : Int} (h : e ≠ 0) : curBytes l k e n = ([], k, e) := by unfold curBytes; rw [if_pos h]
theorem curBytes_bad {l : List UInt8} {k : Nat} {n : Int} (h : n < 0 ∨ (l.length : Int) - (k : Int) < n) : curBytes l k 0 n = ([], k, 3) := by unfold curBytes; rw [if_neg (by omega), if_pos h]

theorem slice_run (P : Program) (w : World) (t : TypeId) (ht : P.underlying t = some (.slice (P.elem t))) (hs : ∀ w, (sizeOf (P.elem t)).run P w = .ok 1 w) (A : Option Addr) (n c k m : Nat) (h : k + m ≤ c) :
    (Instr.slice t (.slice A n c) (some (.int .i64 (k : Int))) (some (.int .i64 ((k : Int) + (m : Int)))) none).run P w = .ok (.slice (if c = k then A else A.map (·.add k)) m (c - k)) w := by
  have e : ((k : Int) + (m : Int)).toNat = k + m := by omega
  rw [run_slice_lh w t A n c ht .i64 .i64 _ _ (by omega) (by omega) (by omega), hs]
  simp [sliced, Result.andThen, e]

set_option maxRecDepth 100000 in
set_option maxHeartbeats 400000 in
theorem rBytes_calls (w : World) {g B k e : Nat} {l : List UInt8} (h : Cur 100 w g B l k e) (hl : l.length ≤ 140737488351232) (n : Int) (hn : n ≤ 9223372036854775807) :
    Calls Tryz.prog 67 #[.pointer (some ⟨g, 0, none⟩), .int .i64 n] w (CurRetB 100 w g B l (curBytes l k e n).1 (curBytes l k e n).2.1 (curBytes l k e n).2.2) := by
  have h' := h
  obtain ⟨A, c, hb, hc, hm', ⟨hby, hBg⟩, hk⟩ := h
  obtain ⟨c0, c1, c2⟩ := cells3 hb
  have f1 := hb.frozen 1
  have f2 := hb.frozen 2
  have hg := hb.lt
  by_cases he : e = 0
  · subst he
    by_cases hbad : n < 0 ∨ (l.length : Int) - (k : Int) < n
    · rw [curBytes_bad hbad]
      have hnd : n < 0 ∨ (¬ n < 0 ∧ (l.length : Int) - (k : Int) < n) := by omega
      have i9 : IntKind.i64.wrap ((l.length : Int) - (k : Int)) = (l.length : Int) - (k : Int) := by rw [IntKind.wrap_i64]; omega
      clear hbad
      rcases hnd with hneg | ⟨hneg, hgt⟩
      all_goals
        go_enter Tryz.func67, Tryz.ntmps67
        go_wp2_with fail
        go_quiet (fail)
        go_wp2
        go_ret
        exact ⟨none, 0, rfl, Nat.le_refl _, Nat.zero_le _, World.ownsRow_nil _ _ _ _, ⟨A, c, (hb.drewN _).set_ 2 _, hc, hm', ⟨hby.only (((Only.refl g w).drewN _).setCell (.inl rfl) _) hBg (by omega), hBg⟩, hk⟩, ((Only.refl g w).drewN _).setCell (.inl rfl) _⟩
    · obtain ⟨m, rfl⟩ := Int.eq_ofNat_of_zero_le (show 0 ≤ n by omega)
      rw [curBytes_ok (by omega) hk]
      have hneg : ¬ (m : Int) < 0 := by omega
      have hgt : ¬ (l.length : Int) - (k : Int) < (m : Int) := by omega
      have hgd : decide ((m : Int) < 0) = false := dcf hneg
      have hmk : m ≤ l.length - k := by omega
      have hlen : ((l.drop k).take m).length = m := by simp; omega
      have i1 : (k : Int) + (m : Int) ≤ (c : Int) := by omega
      have i2 : (0 : Int) ≤ (k : Int) := by omega
      have i3 : (k : Int) ≤ (k : Int) + (m : Int) := by omega
      have i6 : (0 : Int) ≤ (k : Int) + (m : Int) := by omega
      have i7 : ((k : Int) + (m : Int)).toNat = k + m := by omega
      have i5 : IntKind.i64.wrap ((k : Int) + (m : Int)) = (k : Int) + (m : Int) := by rw [IntKind.wrap_i64]; omega
      have hby3 := (hby.cutted hk hc).taken hmk
      generalize hbs : (l.drop k).take m = bs at *
      clear hbad hbs
      clear h'
      have hl2 := hby3.1
      have hT := fun (wx : World) (A3 : Option Addr) (c3 : Nat) (hx : Bytes wx B A3 m bs) (hs : B ≤ wx.heap.size) => twin_calls wx (c := c3) hx hs (by omega)
      have HT := Lib.hid hT
      clear hT
      by_cases hck : c = k
      · subst hck
        rw [if_pos rfl] at hby3
        go_enter Tryz.func67, Tryz.ntmps67
        go_wp2_with fail
        go_quiet (fail)
        go_wp2_with fail
        go_region_held3 (fun w' => w'.cell? ⟨g, 0, none⟩ = some (.slice A l.length c) ∧ w'.cell? ⟨g, 1, none⟩ = some (.int .i64 (c : Int))) (go_keep) ((go_at_call 20; refine (HT.out _ _ _ (hby3.drewN _) (Nat.le_trans hBg (Nat.le_of_lt hg))).mono ?_; rintro en w5 h5; obtain ⟨A5, c5, rfl, hc5, hm5, hb5, hbel5, hown5⟩ := h5.opened; clear h5; have e0 := (hbel5.cell (p := ⟨g, 0, none⟩) hg).trans c0; have e1 := (hbel5.cell (p := ⟨g, 1, none⟩) hg).trans c1))
        have hb5' := (hb.drewN (nq + 1)).below hbel5 hg
        have f1' := hb5'.frozen 1
        have hs5 := hbel5.size
        have hown6 := Lib.hid (ownsRow_setCell_below hown5 (a := ⟨g, 1, none⟩) hg (.int .i64 ((c : Int) + (m : Int))))
        have ho5 : Only g w w5 := ((Only.refl g w).drewN (nq + 1)).trans (Only.of_below hbel5)
        clear hown5 hb5
        go_wp2
        go_ret
        refine ⟨A5, c5, (congrArg (fun x => Ending.returned (.slice A5 x c5)) hlen).symm, hc5, hm5, hown6.out, ⟨A, c, ?_, hc, hm', ⟨hby.only (ho5.setCell (.inl rfl) _) hBg (by omega), hBg⟩, by omega⟩, ho5.setCell (.inl rfl) _⟩
        rw [Int.natCast_add]; exact hb5'.set_ 1 _
      · rw [if_neg hck] at hby3
        go_enter Tryz.func67, Tryz.ntmps67
        go_wp2_with fail
        go_quiet (fail)
        go_wp2_with fail
        go_region_held3 (fun w' => w'.cell? ⟨g, 0, none⟩ = some (.slice A l.length c) ∧ w'.cell? ⟨g, 1, none⟩ = some (.int .i64 (k : Int))) (go_keep) ((go_at_call 20; refine (HT.out _ _ _ (hby3.drewN _) (Nat.le_trans hBg (Nat.le_of_lt hg))).mono ?_; rintro en w5 h5; obtain ⟨A5, c5, rfl, hc5, hm5, hb5, hbel5, hown5⟩ := h5.opened; clear h5; have e0 := (hbel5.cell (p := ⟨g, 0, none⟩) hg).trans c0; have e1 := (hbel5.cell (p := ⟨g, 1, none⟩) hg).trans c1))
        have hb5' := (hb.drewN (nq + 1)).below hbel5 hg
        have f1' := hb5'.frozen 1
        have hs5 := hbel5.size
        have hown6 := Lib.hid (ownsRow_setCell_below hown5 (a := ⟨g, 1, none⟩) hg (.int .i64 ((k : Int) + (m : Int))))
        have ho5 : Only g w w5 := ((Only.refl g w).drewN (nq + 1)).trans (Only.of_below hbel5)
        clear hown5 hb5
        go_wp2
        go_ret
        refine ⟨A5, c5, (congrArg (fun x => Ending.returned (.slice A5 x c5)) hlen).symm, hc5, hm5, hown6.out, ⟨A, c, ?_, hc, hm', ⟨hby.only (ho5.setCell (.inl rfl) _) hBg (by omega), hBg⟩, by omega⟩, ho5.setCell (.inl rfl) _⟩
        rw [Int.natCast_add]; exact hb5'.set_ 1 _
  · rw [curBytes_err he]
    have q : ((e : Int) != 0) = true := net (by omega)
    clear he
    go_enter Tryz.func67, Tryz.ntmps67
    go_wp2
    go_ret
    exact ⟨none, 0, rfl, Nat.le_refl _, Nat.zero_le _, World.ownsRow_nil _ _ _ _, h', Only.refl g _⟩

set_option maxRecDepth 100000 in
set_option maxHeartbeats 400000 in
theorem rText_calls (w : World) {g B k e : Nat} {l : List UInt8} (h : Cur 100 w g B l k e) (hl : l.length ≤ 140737488351232) (most : Int) (hm : most ≤ 9223372036854775807) :
    Calls Tryz.prog 69 #[.pointer (some ⟨g, 0, none⟩), .int .i64 most] w (CurRet 100 w g B l (.string ⟨(curText l k e most).1.toArray⟩) (curText l k e most).2.1 (curText l k e most).2.2) := by
  have hmax := curU_max l k e
  have Hu := Lib.hid (rU_calls w h (by omega))
  have hk : k ≤ l.length := h.choose_spec.choose_spec.2.2.2.2
  obtain ⟨A, c, hb, hc, hm', ⟨hby, hBg⟩, -⟩ := h
  obtain ⟨c0, c1, c2⟩ := cells3 hb
  have He := Lib.hid (fun h => curU_err (l := l) (k := k) (e := e) h)
  generalize hr : curU l k e = r at *
  obtain ⟨u, k1, e1⟩ := r
  simp only at hmax
  have Hr := Lib.hid hr
  clear hr
  go_enter Tryz.func69, Tryz.ntmps69
  go_wp2_with fail
  refine Hu.out.mono ?_
  rintro en w1 ⟨rfl, h1, ho⟩
  have h1' := h1
  obtain ⟨A1, cc1, hb1, hc1, hm1, ⟨hby1, hBg1⟩, hk1⟩ := h1
  obtain ⟨d0, d1, d2⟩ := cells3 hb1
  have f1 := hb1.frozen 1
  have f2 := hb1.frozen 2
  have hg1 := hb1.lt
  clear c0 c1 c2
  by_cases he1 : e1 = 0
  · subst he1
    have he : e = 0 := by
      by_cases he : e = 0
      · exact he
      · have := He.out he; injection this with _ h2; injection h2 with _ h3; exact h3.symm ▸ rfl
    subst he
    by_cases hbad : most < 0 ∨ most < (u : Int)
    · have Hfin := Lib.hid (curText_2 Hr.out hbad)
      have hw : 0 ≤ most → IntKind.u64.wrap most = most := fun h => u64_in h (by omega)
      by_cases hneg : most < 0
      · clear hbad hw
        go_wp2
        go_ret
        rw [Hfin.out]
        exact ⟨rfl, ⟨A1, cc1, (hb1.set_ 1 _).set_ 2 _, hc1, hm1, ⟨hby1.only (((Only.refl g w1).setCell (.inl rfl) _).setCell (.inl rfl) _) hBg1 (by omega), hBg1⟩, hk⟩, ho.trans (((Only.refl g w1).setCell (.inl rfl) _).setCell (.inl rfl) _)⟩
      · have hgt : most < (u : Int) := by omega
        have hw2 := hw (by omega)
        clear hbad hw
        go_wp2
        go_ret
        rw [Hfin.out]
        exact ⟨rfl, ⟨A1, cc1, (hb1.set_ 1 _).set_ 2 _, hc1, hm1, ⟨hby1.only (((Only.refl g w1).setCell (.inl rfl) _).setCell (.inl rfl) _) hBg1 (by omega), hBg1⟩, hk⟩, ho.trans (((Only.refl g w1).setCell (.inl rfl) _).setCell (.inl rfl) _)⟩
    · have hu2 : (u : Int) ≤ 9223372036854775807 := by omega
      have hneg : ¬ most < 0 := by omega
      have hgt : ¬ most < (u : Int) := by omega
      have hw : IntKind.u64.wrap most = most := u64_in (by omega) (by omega)
      have Hbad := Lib.hid hbad; clear hbad
      have hw2 : IntKind.u64.wrap ((l.length : Int) - (k1 : Int)) = (l.length : Int) - (k1 : Int) := u64_in (by omega) (by omega)
      have hw3 : IntKind.i64.wrap ((l.length : Int) - (k1 : Int)) = (l.length : Int) - (k1 : Int) := by rw [IntKind.wrap_i64]; omega
      by_cases hlong : l.length - k1 < u
      · have Hfin := Lib.hid (curText_3 Hr.out Hbad.out hlong)
        have hlo : (l.length : Int) - (k1 : Int) < (u : Int) := by omega
        go_wp2_with fail
        go_region_held3 (fun w' => w'.cell? ⟨g, 0, none⟩ = some (.slice A1 l.length cc1) ∧ w'.cell? ⟨g, 1, none⟩ = some (.int .i64 (k1 : Int))) (go_keep) (fail)
        go_wp2
        go_ret
        rw [Hfin.out]
        exact ⟨rfl, ⟨A1, cc1, (hb1.drew.set_ 1 _).set_ 2 _, hc1, hm1, ⟨hby1.only (((Only.refl g w1).drew.setCell (.inl rfl) _).setCell (.inl rfl) _) hBg1 (by omega), hBg1⟩, hk⟩, ho.trans (((Only.refl g w1).drew.setCell (.inl rfl) _).setCell (.inl rfl) _)⟩
      · have Hfin := Lib.hid (curText_4 Hr.out Hbad.out hlong)
        have hlo : ¬ (l.length : Int) - (k1 : Int) < (u : Int) := by omega
        have hx : Cur 100 w1.drew g B l k1 0 := ⟨A1, cc1, hb1.drew, hc1, hm1, ⟨hby1.drew, hBg1⟩, hk1⟩
        have hbb := rBytes_calls w1.drew hx hl (u : Int) hu2
        rw [curBytes_ok hlong hk1] at hbb
        have Hbb := Lib.hid hbb
        clear hbb hlong
        go_wp2_with fail
        go_region_held3 (fun w' => w'.cell? ⟨g, 0, none⟩ = some (.slice A1 l.length cc1) ∧ w'.cell? ⟨g, 1, none⟩ = some (.int .i64 (k1 : Int))) (go_keep) (fail)
        go_wp2_with fail
        refine Hbb.out.mono ?_
        rintro en w2 ⟨A2, c2, rfl, hc2, hm2, hown2, h2, ho2⟩
        have hby2 := own_bytes hown2
        have kc := hby2.conv Tryz.prog c2 46 5 9 Tryz.underlying46 Tryz.underlying5 Tryz.underlying9
        generalize (l.drop k1).take u = bs at *
        go_wp2
        go_ret
        rw [Hfin.out]
        exact ⟨rfl, h2, ho.trans ((Only.refl g w1).drew.trans ho2)⟩
  · have Hfin : Hid (curText l k e most = ([], k1, e1)) := by
      by_cases he : e = 0
      · subst he; exact curText_1 Hr.out he1
      · have := He.out he
        injection this with _ h2; injection h2 with h3 h4
        subst h3 h4; exact curText_err he
    have q2 : ((e1 : Int) != 0) = true := net (by omega)
    clear he1
    go_wp2
    go_ret
    rw [Hfin.out]
    exact ⟨rfl, h1', ho⟩

theorem curEnd_0 {l : List UInt8} {k e : Nat} (h : e ≠ 0) : curEnd l k e = e := by unfold curEnd; rw [if_pos h]
theorem curEnd_1 {l : List UInt8} {k : Nat} (h : k < l.length) : curEnd l k 0 = 5 := by unfold curEnd; rw [if_neg (by omega), if_pos h]
theorem curEnd_2 {l : List UInt8} {k : Nat} (h : ¬ k < l.length) : curEnd l k 0 = 0 := by unfold curEnd; rw [if_neg (by omega), if_neg h]

set_option maxRecDepth 100000 in
theorem rEnd_calls (w : World) {g B k e : Nat} {l : List UInt8} (h : Cur 100 w g B l k e) :
    Calls Tryz.prog 70 #[.pointer (some ⟨g, 0, none⟩)] w fun en w' => en = .returned (.int .i64 (curEnd l k e : Nat)) ∧ ∃ n, w' = w.drewN n := by
  obtain ⟨A, c, hb, -⟩ := h
  obtain ⟨c0, c1, c2⟩ := cells3 hb
  clear hb
  by_cases he : e = 0
  · subst he
    by_cases hk : k < l.length
    · rw [curEnd_1 hk]
      have hkd : (k : Int) < (l.length : Int) := by omega
      go_enter Tryz.func70, Tryz.ntmps70
      go_wp2_with fail
      go_quiet (fail)
      go_wp2
      go_ret
      exact ⟨rfl, _, rfl⟩
    · rw [curEnd_2 hk]
      have hkd : ¬ (k : Int) < (l.length : Int) := by omega
      go_enter Tryz.func70, Tryz.ntmps70
      go_wp2_with fail
      go_quiet (fail)
      go_wp2
      go_ret
      exact ⟨rfl, _, rfl⟩
  · rw [curEnd_0 he]
    have q : ((e : Int) == 0) = false := eqf (by omega)
    clear he
    go_enter Tryz.func70, Tryz.ntmps70
    go_wp2_with fail
    go_quiet (fail)
    go_wp2
    go_ret
    exact ⟨rfl, _, rfl⟩
end Go.Proofs.YtjbmlhipjceeeaaGreat.Nu

namespace Go.Proofs.YtjbmlhipjceeeaaGreat.Nu
set_option linter.unusedVariables false
set_option linter.unusedSimpArgs false

theorem putU_len10 {n : Nat} (h : n ≤ 18446744073709551615) : (putU n).length ≤ 10 := putU_len 9 n (by omega)

theorem putU_mono (k : Nat) : ∀ n m : Nat, n ≤ m → m ≤ k → (putU n).length ≤ (putU m).length := by
  induction k using Nat.strongRecOn with
  | ind k ih =>
    intro n m h hm
    by_cases hn : n < 128
    · rw [putU_lt hn]; exact putU_pos m
    · rw [putU_ge hn, putU_ge (by omega : ¬ m < 128)]
      simp only [List.length_cons]
      have := ih (m / 128) (by omega) (n / 128) (m / 128) (by omega) (Nat.le_refl _)
      omega

theorem u8_inj {a b : Nat} (ha : a < 256) (hb : b < 256) (h : UInt8.ofNat a = UInt8.ofNat b) : a = b := by
  have := congrArg UInt8.toNat h
  rw [UInt8.toNat_ofNat', UInt8.toNat_ofNat'] at this
  omega

theorem putU_apart (k : Nat) : ∀ n m : Nat, n ≤ k → putU n <+: putU m → n = m := by
  induction k using Nat.strongRecOn with
  | ind k ih =>
    intro n m hk h
    by_cases hn : n < 128
    · by_cases hm : m < 128
      · rw [putU_lt hn, putU_lt hm] at h
        simp only [List.cons_prefix_cons] at h
        exact u8_inj (by omega) (by omega) h.1
      · rw [putU_lt hn, putU_ge hm] at h
        simp only [List.cons_prefix_cons] at h
        have := u8_inj (by omega) (by omega) h.1
        omega
    · by_cases hm : m < 128
      · rw [putU_ge hn, putU_lt hm] at h
        simp only [List.cons_prefix_cons] at h
        have := u8_inj (by omega) (by omega) h.1
        omega
      · rw [putU_ge hn, putU_ge hm] at h
        simp only [List.cons_prefix_cons] at h
        have h1 := u8_inj (by omega) (by omega) h.1
        have h2 := ih (n / 128) (by omega) (n / 128) (m / 128) (Nat.le_refl _) h.2
        omega

/-- A number's bytes: all but the last are 128 and more, the last is less, and no nought behind others. -/
theorem putU_form (k : Nat) : ∀ n, n ≤ k → ∃ (pre : List UInt8) (x : UInt8), putU n = pre ++ [x] ∧ (∀ b ∈ pre, 128 ≤ b.toNat) ∧ x.toNat < 128 ∧ (n ≠ 0 → x.toNat ≠ 0) ∧ (pre = [] ∨ n ≠ 0) ∧ lev (pre ++ [x]) = n := by
  induction k using Nat.strongRecOn with
  | ind k ih =>
    intro n hk
    by_cases hn : n < 128
    · refine ⟨[], UInt8.ofNat n, by rw [putU_lt hn]; rfl, by simp, ?_, ?_, .inl rfl, ?_⟩
      · rw [UInt8.toNat_ofNat']; omega
      · rw [UInt8.toNat_ofNat']; omega
      · simp only [List.nil_append, lev, UInt8.toNat_ofNat']; omega
    · obtain ⟨pre, x, h1, h2, h3, h4, h5, h6⟩ := ih (n / 128) (by omega) (n / 128) (Nat.le_refl _)
      refine ⟨UInt8.ofNat (n % 128 + 128) :: pre, x, by rw [putU_ge hn, h1]; rfl, ?_, h3, fun _ => h4 (by omega), .inr (by omega), ?_⟩
      · intro b hb
        rcases List.mem_cons.1 hb with rfl | hb
        · rw [UInt8.toNat_ofNat']; omega
        · exact h2 b hb
      · simp only [List.cons_append, lev, h6, UInt8.toNat_ofNat']; omega

theorem readAt_putU {n : Nat} (hn : n ≤ 18446744073709551615) (rest : List UInt8) : readAt (putU n ++ rest) = (n, (putU n).length, 0) := by
  obtain ⟨pre, x, h1, h2, h3, h4, h5, h6⟩ := putU_form n n (Nat.le_refl _)
  have hlen := putU_len10 hn
  have hl : pre.length + 1 ≤ 10 := by rw [h1] at hlen; simpa using hlen
  have hk : pre.length < (putU n ++ rest).length := by rw [h1]; simp
  have hx : (putU n ++ rest)[pre.length] = x := by simp [h1]
  have hlv : lev (pre ++ [x]) = lev pre + 128 ^ pre.length * (x.toNat % 128) := lev_snoc pre x
  have hr := readAt_ok (r := putU n ++ rest) (k := pre.length) (by omega) hk (fun j hj => by
    have hm : pre[j] ∈ pre := List.getElem_mem hj
    have := h2 _ hm
    have e : (putU n ++ rest).getD j 0 = pre[j] := by
      rw [h1, List.getD, List.getElem?_append_left (by simp; omega), List.getElem?_append_left hj, List.getElem?_eq_getElem hj]; rfl
    rw [e]; exact this) (by
    rw [hx]
    rintro (⟨h9, h1'⟩ | ⟨h0, h0'⟩)
    · rw [h6, h9] at hlv
      have : 128 ^ 9 * 2 ≤ 128 ^ 9 * (x.toNat % 128) := Nat.mul_le_mul_left _ (by omega)
      omega
    · rcases h5 with h5 | h5
      · rw [h5] at h0'; simp at h0'
      · exact h4 h5 h0) (by rw [hx]; exact h3)
  have ht : (putU n ++ rest).take (pre.length + 1) = pre ++ [x] := by
    rw [h1]
    have : pre.length + 1 = (pre ++ [x]).length := by simp
    rw [this, List.take_left]
  rw [hr, ht, h6, h1]; simp

theorem putU_lev : ∀ (pre : List UInt8) (x : UInt8), (∀ b ∈ pre, 128 ≤ b.toNat) → x.toNat < 128 → (pre = [] ∨ x.toNat ≠ 0) → putU (lev (pre ++ [x])) = pre ++ [x] ∧ (x.toNat ≠ 0 → lev (pre ++ [x]) ≠ 0)
  | [], x, _, h2, _ => by
    have e : lev ([] ++ [x]) = x.toNat := by simp [lev]; omega
    rw [e]
    exact ⟨by rw [putU_lt h2]; simp, id⟩
  | b :: pre, x, h1, h2, h3 => by
    have hx : x.toNat ≠ 0 := by rcases h3 with h | h; cases h; exact h
    obtain ⟨i1, i2⟩ := putU_lev pre x (fun c hc => h1 c (List.mem_cons_of_mem _ hc)) h2 (.inr hx)
    have hb := h1 b List.mem_cons_self
    have hb2 := UInt8.toNat_lt b
    have h0 := i2 hx
    have e : lev (b :: pre ++ [x]) = b.toNat % 128 + 128 * lev (pre ++ [x]) := rfl
    refine ⟨?_, fun _ => by rw [e]; omega⟩
    rw [e, putU_ge (by omega)]
    have e1 : (b.toNat % 128 + 128 * lev (pre ++ [x])) / 128 = lev (pre ++ [x]) := by omega
    have e2 : (b.toNat % 128 + 128 * lev (pre ++ [x])) % 128 + 128 = b.toNat := by omega
    rw [e1, e2, i1]
    simp

theorem putU_readAt {r : List UInt8} (h : (readAt r).2.2 = 0) : putU (readAt r).1 = r.take (readAt r).2.1 ∧ (readAt r).2.1 ≤ r.length := by
  have h9 := headsF_le 9 r
  have hbig := headsF_big 9 r
  unfold readAt at h ⊢
  split at h
  · simp at h
  · split at h
    · simp at h
    · rename_i h1 h2
      rw [if_neg h1, if_neg h2]
      have hk : headsF 9 r < r.length := by omega
      have hx : r.getD (headsF 9 r) 0 = r[headsF 9 r] := by simp [List.getD, List.getElem?_eq_getElem hk]
      refine ⟨?_, by simp only; omega⟩
      simp only
      rw [take_snoc r _ hk]
      refine (putU_lev _ _ ?_ ?_ ?_).1
      · intro b hb
        obtain ⟨j, hj, e⟩ := List.getElem_of_mem hb
        rw [List.length_take] at hj
        have := hbig j (by omega)
        rw [List.getElem_take] at e
        rw [← e]
        simpa [List.getD, List.getElem?_eq_getElem (show j < r.length by omega)] using this
      · rw [hx] at h2
        rcases Nat.lt_or_ge (headsF 9 r) 9 with h | h
        · have := headsF_stop 9 r h hk; rwa [hx] at this
        · omega
      · rw [hx] at h2
        rcases Nat.eq_zero_or_pos (headsF 9 r) with h0 | h0
        · left; rw [h0]; simp
        · right; intro h3; exact h2 (.inr ⟨h0, h3⟩)
end Go.Proofs.YtjbmlhipjceeeaaGreat.Nu
