/- Plain laws of a number's bytes (chapter 1). -/
import Derived.Test.YtpenjandhgcgeaaNumP
namespace Go.Proofs.Ytpenjandhgcgeaa

theorem putU_len10 {n : Nat} (h : n ≤ 18446744073709551615) : (putU n).length ≤ 10 := putU_len 9 n (by omega)

theorem putU_mono (k : Nat) : ∀ n m : Nat, n ≤ m → m ≤ k → (putU n).length ≤ (putU m).length := by
  induction k using Nat.strongRecOn with
  | ind k ih =>
    intro n m h hm
    by_cases hn : n < 128
    · rw [putU_lt hn]; exact putU_pos m
    · rw [putU_ge hn, putU_ge (by omega : ¬ m < 128)]
      simp only [List.length_cons]
      have := ih (m / 128) (by omega) (n / 128) (m / 128) (by omega) (Nat.le_refl _)
      omega

theorem u8_inj {a b : Nat} (ha : a < 256) (hb : b < 256) (h : UInt8.ofNat a = UInt8.ofNat b) : a = b := by
  have := congrArg UInt8.toNat h
  rw [UInt8.toNat_ofNat', UInt8.toNat_ofNat'] at this
  omega

theorem putU_apart (k : Nat) : ∀ n m : Nat, n ≤ k → putU n <+: putU m → n = m := by
  induction k using Nat.strongRecOn with
  | ind k ih =>
    intro n m hk h
    by_cases hn : n < 128
    · by_cases hm : m < 128
      · rw [putU_lt hn, putU_lt hm] at h
        simp only [List.cons_prefix_cons] at h
        exact u8_inj (by omega) (by omega) h.1
      · rw [putU_lt hn, putU_ge hm] at h
        simp only [List.cons_prefix_cons] at h
        have := u8_inj (by omega) (by omega) h.1
        omega
    · by_cases hm : m < 128
      · rw [putU_ge hn, putU_lt hm] at h
        simp only [List.cons_prefix_cons] at h
        have := u8_inj (by omega) (by omega) h.1
        omega
      · rw [putU_ge hn, putU_ge hm] at h
        simp only [List.cons_prefix_cons] at h
        have h1 := u8_inj (by omega) (by omega) h.1
        have h2 := ih (n / 128) (by omega) (n / 128) (m / 128) (Nat.le_refl _) h.2
        omega

/-- A number's bytes: all but the last are 128 and more, the last is less, and no nought behind others. -/
theorem putU_form (k : Nat) : ∀ n, n ≤ k → ∃ (pre : List UInt8) (x : UInt8), putU n = pre ++ [x] ∧ (∀ b ∈ pre, 128 ≤ b.toNat) ∧ x.toNat < 128 ∧ (n ≠ 0 → x.toNat ≠ 0) ∧ (pre = [] ∨ n ≠ 0) ∧ lev (pre ++ [x]) = n := by
  induction k using Nat.strongRecOn with
  | ind k ih =>
    intro n hk
    by_cases hn : n < 128
    · refine ⟨[], UInt8.ofNat n, by rw [putU_lt hn]; rfl, by simp, ?_, ?_, .inl rfl, ?_⟩
      · rw [UInt8.toNat_ofNat']; omega
      · rw [UInt8.toNat_ofNat']; omega
      · simp only [List.nil_append, lev, UInt8.toNat_ofNat']; omega
    · obtain ⟨pre, x, h1, h2, h3, h4, h5, h6⟩ := ih (n / 128) (by omega) (n / 128) (Nat.le_refl _)
      refine ⟨UInt8.ofNat (n % 128 + 128) :: pre, x, by rw [putU_ge hn, h1]; rfl, ?_, h3, fun _ => h4 (by omega), .inr (by omega), ?_⟩
      · intro b hb
        rcases List.mem_cons.1 hb with rfl | hb
        · rw [UInt8.toNat_ofNat']; omega
        · exact h2 b hb
      · simp only [List.cons_append, lev, h6, UInt8.toNat_ofNat']; omega

theorem readAt_putU {n : Nat} (hn : n ≤ 18446744073709551615) (rest : List UInt8) : readAt (putU n ++ rest) = (n, (putU n).length, 0) := by
  obtain ⟨pre, x, h1, h2, h3, h4, h5, h6⟩ := putU_form n n (Nat.le_refl _)
  have hlen := putU_len10 hn
  have hl : pre.length + 1 ≤ 10 := by rw [h1] at hlen; simpa using hlen
  have hk : pre.length < (putU n ++ rest).length := by rw [h1]; simp
  have hx : (putU n ++ rest)[pre.length] = x := by simp [h1]
  have hlv : lev (pre ++ [x]) = lev pre + 128 ^ pre.length * (x.toNat % 128) := lev_snoc pre x
  have hr := readAt_ok (r := putU n ++ rest) (k := pre.length) (by omega) hk (fun j hj => by
    have hm : pre[j] ∈ pre := List.getElem_mem hj
    have := h2 _ hm
    have e : (putU n ++ rest).getD j 0 = pre[j] := by
      rw [h1, List.getD, List.getElem?_append_left (by simp; omega), List.getElem?_append_left hj, List.getElem?_eq_getElem hj]; rfl
    rw [e]; exact this) (by
    rw [hx]
    rintro (⟨h9, h1'⟩ | ⟨h0, h0'⟩)
    · rw [h6, h9] at hlv
      have : 128 ^ 9 * 2 ≤ 128 ^ 9 * (x.toNat % 128) := Nat.mul_le_mul_left _ (by omega)
      omega
    · rcases h5 with h5 | h5
      · rw [h5] at h0'; simp at h0'
      · exact h4 h5 h0) (by rw [hx]; exact h3)
  have ht : (putU n ++ rest).take (pre.length + 1) = pre ++ [x] := by
    rw [h1]
    have : pre.length + 1 = (pre ++ [x]).length := by simp
    rw [this, List.take_left]
  rw [hr, ht, h6, h1]; simp

theorem putU_lev : ∀ (pre : List UInt8) (x : UInt8), (∀ b ∈ pre, 128 ≤ b.toNat) → x.toNat < 128 → (pre = [] ∨ x.toNat ≠ 0) → putU (lev (pre ++ [x])) = pre ++ [x] ∧ (x.toNat ≠ 0 → lev (pre ++ [x]) ≠ 0)
  | [], x, _, h2, _ => by
    have e : lev ([] ++ [x]) = x.toNat := by simp [lev]; omega
    rw [e]
    exact ⟨by rw [putU_lt h2]; simp, id⟩
  | b :: pre, x, h1, h2, h3 => by
    have hx : x.toNat ≠ 0 := by rcases h3 with h | h; cases h; exact h
    obtain ⟨i1, i2⟩ := putU_lev pre x (fun c hc => h1 c (List.mem_cons_of_mem _ hc)) h2 (.inr hx)
    have hb := h1 b List.mem_cons_self
    have hb2 := UInt8.toNat_lt b
    have h0 := i2 hx
    have e : lev (b :: pre ++ [x]) = b.toNat % 128 + 128 * lev (pre ++ [x]) := rfl
    refine ⟨?_, fun _ => by rw [e]; omega⟩
    rw [e, putU_ge (by omega)]
    have e1 : (b.toNat % 128 + 128 * lev (pre ++ [x])) / 128 = lev (pre ++ [x]) := by omega
    have e2 : (b.toNat % 128 + 128 * lev (pre ++ [x])) % 128 + 128 = b.toNat := by omega
    rw [e1, e2, i1]
    simp

theorem putU_readAt {r : List UInt8} (h : (readAt r).2.2 = 0) : putU (readAt r).1 = r.take (readAt r).2.1 ∧ (readAt r).2.1 ≤ r.length := by
  have h9 := headsF_le 9 r
  have hbig := headsF_big 9 r
  unfold readAt at h ⊢
  split at h
  · simp at h
  · split at h
    · simp at h
    · rename_i h1 h2
      rw [if_neg h1, if_neg h2]
      have hk : headsF 9 r < r.length := by omega
      have hx : r.getD (headsF 9 r) 0 = r[headsF 9 r] := by simp [List.getD, List.getElem?_eq_getElem hk]
      refine ⟨?_, by simp only; omega⟩
      simp only
      rw [take_snoc r _ hk]
      refine (putU_lev _ _ ?_ ?_ ?_).1
      · intro b hb
        obtain ⟨j, hj, e⟩ := List.getElem_of_mem hb
        rw [List.length_take] at hj
        have := hbig j (by omega)
        rw [List.getElem_take] at e
        rw [← e]
        simpa [List.getD, List.getElem?_eq_getElem (show j < r.length by omega)] using this
      · rw [hx] at h2
        rcases Nat.lt_or_ge (headsF 9 r) 9 with h | h
        · have := headsF_stop 9 r h hk; rwa [hx] at this
        · omega
      · rw [hx] at h2
        rcases Nat.eq_zero_or_pos (headsF 9 r) with h0 | h0
        · left; rw [h0]; simp
        · right; intro h3; exact h2 (.inr ⟨h0, h3⟩)
end Go.Proofs.Ytpenjandhgcgeaa
