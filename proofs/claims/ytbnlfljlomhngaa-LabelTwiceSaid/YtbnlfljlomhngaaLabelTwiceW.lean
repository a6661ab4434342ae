/- The walk of LabelTwice. -/
import Derived.Test.YtbnlfljlomhngaaLabQ
namespace Go.Proofs.Ytbnlfljlomhngaa.lawLabelTwice
open Go.RowKit

/-- What the names in both are: told by what it has. -/
def BothK (a b : List ByteArray) (k j : Nat) (L : List ByteArray) : Prop := ∀ z, hasB L z = true ↔ ((∃ i, i < k ∧ strAt a i = z) ∧ hasB b z = true) ∨ (z = strAt a k ∧ ∃ i, i < j ∧ strAt b i = z)
theorem both_0 (a b : List ByteArray) : BothK a b 0 0 [] := fun z => by simp [hasB]
theorem both_eq {a b L : List ByteArray} {k j : Nat} (h : BothK a b k j L) (he : strAt a k = strAt b j) : BothK a b k (j + 1) (L ++ [strAt a k]) := fun z => by
  have e : hasB (L ++ [strAt a k]) z = true ↔ hasB L z = true ∨ strAt a k = z := by simp [hasB]
  rw [e, h z]
  constructor
  · rintro ((h1 | ⟨h1, i, h2, h3⟩) | h1)
    · exact .inl h1
    · exact .inr ⟨h1, i, by omega, h3⟩
    · exact .inr ⟨h1.symm, j, by omega, by rw [← he]; exact h1⟩
  · rintro (h1 | ⟨h1, i, h2, h3⟩)
    · exact .inl (.inl h1)
    · exact .inr h1.symm
theorem both_ne {a b L : List ByteArray} {k j : Nat} (h : BothK a b k j L) (he : strAt a k ≠ strAt b j) : BothK a b k (j + 1) L := fun z => by
  rw [h z]
  constructor
  · rintro (h1 | ⟨h1, i, h2, h3⟩)
    · exact .inl h1
    · exact .inr ⟨h1, i, by omega, h3⟩
  · rintro (h1 | ⟨h1, i, h2, h3⟩)
    · exact .inl h1
    · refine .inr ⟨h1, i, ?_, h3⟩
      rcases Nat.lt_or_ge i j with h4 | h4
      · exact h4
      · obtain rfl : i = j := by omega
        exact absurd (h1.symm.trans h3.symm) he
theorem has_iff (b : List ByteArray) (z : ByteArray) : hasB b z = true ↔ ∃ i, i < b.length ∧ strAt b i = z := by
  constructor
  · intro h
    unfold hasB at h
    rw [List.any_eq_true] at h
    obtain ⟨y, hy, e⟩ := h
    obtain ⟨i, hi, rfl⟩ := List.getElem_of_mem hy
    exact ⟨i, hi, by simpa [strAt, List.getD, List.getElem?_eq_getElem hi] using e⟩
  · rintro ⟨i, hi, e⟩
    exact has_yes hi e
theorem both_next {a b L : List ByteArray} {k : Nat} (h : BothK a b k b.length L) : BothK a b (k + 1) 0 L := fun z => by
  rw [h z, ← has_iff]
  constructor
  · rintro (⟨⟨i, h1, h2⟩, h3⟩ | ⟨h1, h2⟩)
    · exact .inl ⟨⟨i, by omega, h2⟩, h3⟩
    · exact .inl ⟨⟨k, by omega, h1.symm⟩, h2⟩
  · rintro (⟨⟨i, h1, h2⟩, h3⟩ | ⟨h1, i, h2, _⟩)
    · rcases Nat.lt_or_ge i k with h4 | h4
      · exact .inl ⟨⟨i, h4, h2⟩, h3⟩
      · obtain rfl : i = k := by omega
        exact .inr ⟨h2.symm, h3⟩
    · omega
theorem both_end {a b L : List ByteArray} (h : BothK a b a.length 0 L) (z : ByteArray) : hasB L z = (hasB a z && hasB b z) := by
  rw [Bool.eq_iff_iff, h z, Bool.and_eq_true, has_iff a]
  constructor
  · rintro (h1 | ⟨_, i, h2, _⟩)
    · exact h1
    · omega
  · exact fun h1 => .inl h1

set_option maxRecDepth 100000 in
set_option maxHeartbeats 800000 in
theorem early (w : World) {B c c1 c2 : Nat} {A A1 A2 : Option Addr} {l : List Lab} {a b : List ByteArray} (h : Labs w B A l) (hB : B ≤ w.heap.size) (hf : Fit l) (hn : l.length ≤ 4398046511104)
    (hna : a.length ≤ 8796093022208) (hnb : b.length ≤ 8796093022208) (hc : fewB l = false ∨ 20 < a.length ∨ 20 < b.length) :
    Calls Try.prog 4 #[.slice A l.length c, .slice A1 a.length c1, .slice A2 b.length c2] w fun e w' => e = .returned (.bool true) ∧ Below w.heap.size w w' := by
  have Hf := Lib.hid hf
  clear hf
  have hn2 : l.length ≤ 140737488355328 := by omega
  have hcase : fewB l = false ∨ (fewB l = true ∧ (20 : Int) < (a.length : Int)) ∨ (fewB l = true ∧ ¬ (20 : Int) < (a.length : Int) ∧ (20 : Int) < (b.length : Int)) := by
    cases hq : fewB l
    · exact .inl rfl
    · rw [hq] at hc
      rcases hc with hc | hc | hc
      · cases hc
      · exact .inr (.inl ⟨rfl, by omega⟩)
      · rcases Nat.lt_or_ge 20 a.length with h1 | h1
        · exact .inr (.inl ⟨rfl, by omega⟩)
        · exact .inr (.inr ⟨rfl, by omega, by omega⟩)
  clear hc
  rcases hcase with hq | ⟨hq, h1⟩ | ⟨hq, h1, h2⟩
  all_goals
    have HQ := Lib.hid hq
    clear hq
    try (have d1 := dct h1)
    try (have d1 := dcf h1)
    try (have d2 := dct h2)
    go_enter Try.func4, Try.ntmps4
    go_wp2_with fail
    refine (lives_calls w).mono ?_
    rintro e w1 ⟨rfl, hb1⟩
    have h1' := h.below (hb1.mono hB)
    have s1 := hb1.size
    go_wp2_with fail
    refine (few_calls w1 h1' (by omega) Hf.out hn2).mono ?_
    rw [HQ.out]
    rintro e w2 ⟨rfl, hb2⟩
    have hb12 := hb1.trans (hb2.mono s1)
    have s2 := hb2.size
    go_wp2_with fail
    refine (lives_calls w2).mono ?_
    rintro e w3 ⟨rfl, hb3⟩
    go_wp2
    go_ret
    exact ⟨rfl, hb12.trans (hb3.mono (by omega))⟩

set_option maxRecDepth 100000 in
set_option maxHeartbeats 1600000 in
theorem body (w : World) {B B1 B2 c c1 c2 : Nat} {A A1 A2 : Option Addr} {l : List Lab} {a b : List ByteArray} (h : Labs w B A l) (hB : B ≤ w.heap.size) (ha : Strs w B1 A1 a) (hB1 : B1 ≤ w.heap.size) (hb : Strs w B2 A2 b) (hB2 : B2 ≤ w.heap.size) (hf : Fit l) (hn : l.length ≤ 4398046511104)
    (hq : fewB l = true) (hna : a.length ≤ 20) (hnb : b.length ≤ 20) :
    Calls Try.prog 4 #[.slice A l.length c, .slice A1 a.length c1, .slice A2 b.length c2] w fun e w' => e = .returned (.bool true) ∧ Below w.heap.size w w' := by
  have Hf := Lib.hid hf
  have hn2 : l.length ≤ 140737488355328 := by omega
  have a20 : ¬ (20 : Int) < (a.length : Int) := by omega
  have b20 : ¬ (20 : Int) < (b.length : Int) := by omega
  have a20' := dcf a20
  have b20' := dcf b20
  have HQ := Lib.hid hq
  clear hf hq
  go_enter Try.func4, Try.ntmps4
  go_wp2_with fail
  refine (lives_calls w).mono ?_
  rintro e w1 ⟨rfl, hb1⟩
  have h1 := h.below (hb1.mono hB)
  have s1 := hb1.size
  go_wp2_with fail
  refine (few_calls w1 h1 (by omega) Hf.out hn2).mono ?_
  rw [HQ.out]
  rintro e w2 ⟨rfl, hb2⟩
  have hb02 := hb1.trans (hb2.mono s1)
  have h2 := h.below (hb02.mono hB)
  have a2 := ha.below (hb02.mono hB1)
  have b2 := hb.below (hb02.mono hB2)
  have s2 := hb02.size
  clear h1 hb1 hb2 s1 a20' b20' h ha hb
  go_wp2
  go_loopw [7, 33] (fun v i wr => ∃ (k n : Nat) (L : List ByteArray), k ≤ a.length ∧ i = .int .i64 (k : Int) ∧ n ≤ 20 * k ∧ (∃ A' c', v = .slice A' n c' ∧ wr.ownsRow w2.heap.size 9 1 v n (L.map .string)) ∧ Hid (L.length = n ∧ BothK a b k 0 L) ∧ Below w2.heap.size w2 wr) (fun _ i _ => a.length - (intOf i).toNat)
  case atStart => exact ⟨0, 0, [], Nat.zero_le _, rfl, Nat.le_refl _, ⟨none, 0, rfl, World.ownsRow_nil _ _ _ _⟩, Lib.hid ⟨rfl, both_0 a b⟩, Below.refl _ _⟩
  case round =>
    obtain ⟨k, n, L, hk, rfl, hnk, ⟨A', c', rfl, hown⟩, HL, hbel⟩ := hrel
    by_cases hlt : k < a.length
    · obtain ⟨ba, offa, rfl, _, hca⟩ := (a2.below (hbel.mono (by omega))).cellAt (show 0 < a.length by omega)
      have x0 := hca k hlt
      clear hca
      go_wp2
      go_loopw [7, 39] (fun v i wj => ∃ (j m : Nat) (M : List ByteArray), j ≤ b.length ∧ i = .int .i64 (j : Int) ∧ m ≤ 20 * k + j ∧ (∃ A' c', v = .slice A' m c' ∧ wj.ownsRow w2.heap.size 9 1 v m (M.map .string)) ∧ Hid (M.length = m ∧ BothK a b k j M) ∧ Below w2.heap.size w2 wj) (fun _ i _ => b.length - (intOf i).toNat)
      case atStart => exact ⟨0, n, L, Nat.zero_le _, rfl, by omega, ⟨A', c', rfl, hown⟩, HL, hbel⟩
      case round =>
        obtain ⟨j, m, M, hj, rfl, hmk, ⟨A3, c3, rfl, hownj⟩, HM, hbelj⟩ := hrel
        by_cases hjl : j < b.length
        · obtain ⟨bb, offb, rfl, _, hcb⟩ := (b2.below (hbelj.mono (by omega))).cellAt (show 0 < b.length by omega)
          have y0 := hcb j hjl
          clear hcb
          have hsz := hbelj.size
          by_cases he : strAt a k = strAt b j
          · have HM2 : Hid ((M ++ [strAt a k]).length = m + 1 ∧ BothK a b k (j + 1) (M ++ [strAt a k])) := Lib.hid ⟨by rw [List.length_append, HM.out.1]; rfl, both_eq HM.out.2 he⟩
            have q : ((strAt a k).toList == (strAt b j).toList) = true := by rw [he]; exact beq_self_eq_true _
            clear he
            generalize hx : strAt a k = x at *
            clear hx
            generalize hy : strAt b j = y at *
            clear hy
            go_wp2_with (at_builtin; go_must (refine wpList_push _ rfl (.tmp 46) (.tmp 48) _ rfl w2.heap.size 9 _ 16 Try.underlying31 Try.infoStr rfl _ _ _ (.string x) 9 rfl rfl hownj rfl (by unfold maxLen; omega) (by omega) (by omega) ?_))
            intro v' w3 hown3 hbel3 _ _
            obtain ⟨A4, c4, rfl, _, _, _⟩ := own_slice hown3
            go_wp2
            go_roundw
            case rel => exact ⟨j + 1, m + 1, M ++ [x], by omega, by go_num, by omega, ⟨A4, c4, rfl, by rw [List.map_append]; exact hown3⟩, HM2, hbelj.trans hbel3⟩
            case measure => simp [intOf]; omega
          · have HM2 : Hid (M.length = m ∧ BothK a b k (j + 1) M) := Lib.hid ⟨HM.out.1, both_ne HM.out.2 he⟩
            have q : ((strAt a k).toList == (strAt b j).toList) = false := by rw [bytes_eqd]; exact dcf he
            clear he
            go_wp2
            go_roundw
            case rel => exact ⟨j + 1, m, M, by omega, by go_num, by omega, ⟨A3, c3, rfl, hownj⟩, HM2, hbelj⟩
            case measure => simp [intOf]; omega
        · obtain rfl : j = b.length := by omega
          have HM2 : Hid (M.length = m ∧ BothK a b (k + 1) 0 M) := Lib.hid ⟨HM.out.1, both_next HM.out.2⟩
          go_wp2
          go_roundw
          case rel => exact ⟨k + 1, m, M, by omega, by go_num, by omega, ⟨A3, c3, rfl, hownj⟩, HM2, hbelj⟩
          case measure => simp [intOf]; omega
    · obtain rfl : k = a.length := by omega
      have hLl := HL.out.1
      subst hLl
      have HE : Hid (partB (partB l a) b = partB l L) := Lib.hid (part_part l a b L (both_end HL.out.2))
      have hrL : Strs wr wr.heap.size A' L := Reads.of_own hown
      have s3 := hbel.size
      have h3 := h2.below (hbel.mono (by omega))
      have a3 := a2.below (hbel.mono (by omega))
      have b3 := b2.below (hbel.mono (by omega))
      have hb03 := hb02.trans (hbel.mono s2)
      clear h2 a2 b2 HL
      go_wp2_with fail
      refine (part_calls wr h3 (by omega) a3 (by omega) hn (by omega)).mono ?_
      rintro e w4 ⟨Ap, cp, rfl, hp, _, hb4⟩
      have hpl := part_le l a
      have h4 := h3.below (hb4.mono (by omega))
      have b4 := b3.below (hb4.mono (by omega))
      have r4 := hrL.below hb4
      have hb04 := hb03.trans (hb4.mono (by omega))
      have s4 := hb4.size
      have Hfp := Lib.hid (fit_part Hf.out a)
      have HRP : Hid (rightB l = true → rightB (partB l a) = true) := Lib.hid fun h => right_part h a
      clear h3 b3 a3 hrL
      generalize hp1 : partB l a = p at *
      clear hp1
      go_wp2_with fail
      refine (part_calls w4 hp (Nat.le_refl _) b4 (by omega) (by omega) (by omega)).mono ?_
      rintro e w5 ⟨A5, c5, rfl, hp5, _, hb5⟩
      have h5 := h4.below (hb5.mono (by omega))
      have r5 := r4.below (hb5.mono (by omega))
      have pp5 := hp.below (hb5.mono (by omega))
      have hb05 := hb04.trans (hb5.mono (by omega))
      have s5 := hb5.size
      clear h4 b4 r4 hp
      rw [HE.out] at hp5 ⊢
      have hpl2 := part_le l L
      go_wp2_with fail
      refine (part_calls w5 h5 (by omega) r5 (by omega) hn (by omega)).mono ?_
      rintro e w6 ⟨A6, c6, rfl, hp6, _, hb6⟩
      have h6 := h5.below (hb6.mono (by omega))
      have pp6 := pp5.below (hb6.mono (by omega))
      have hp56 := hp5.below (hb6.mono (by omega))
      have hb06 := hb05.trans (hb6.mono (by omega))
      have s6 := hb6.size
      clear h5 pp5 hp5 r5
      go_wp2_with fail
      refine (sameR_calls w6 hp56 hp6 (by omega) (by omega)).mono ?_
      rw [show sameB (partB l L) (partB l L) = true from dct rfl]
      rintro e w7 ⟨rfl, hb7⟩
      have h7 := h6.below (hb7.mono (by omega))
      have pp7 := pp6.below (hb7.mono (by omega))
      have hb07 := hb06.trans (hb7.mono (by omega))
      have s7 := hb7.size
      clear h6 pp6 hp56 hp6
      go_wp2_with fail
      refine (right_calls w7 h7 (by omega) Hf.out hn2).mono ?_
      by_cases hr : rightB l = true
      · have hr2 := HRP.out hr
        rw [hr]
        rintro e w8 ⟨rfl, hb8⟩
        have pp8 := pp7.below (hb8.mono (by omega))
        have hb08 := hb07.trans (hb8.mono (by omega))
        have s8 := hb8.size
        clear h7 pp7 hr
        go_wp2_with fail
        refine (right_calls w8 pp8 (by omega) Hfp.out (by omega)).mono ?_
        rw [hr2]
        rintro e w9 ⟨rfl, hb9⟩
        clear hr2
        go_wp2
        go_ret
        exact ⟨rfl, hb08.trans (hb9.mono (by omega))⟩
      · have hr : rightB l = false := by simpa using hr
        rw [hr]
        rintro e w8 ⟨rfl, hb8⟩
        clear hr
        go_wp2
        go_ret
        exact ⟨rfl, hb07.trans (hb8.mono (by omega))⟩

theorem walk {H : Type} {enc : TypeId × Value → H} {W : World} {base : Nat} {v0 v1 v2 : Value} {d0 d1 d2 : DataW H} {p0 p1 p2 : List MemPlace} (g0 : Arg enc Try.prog W base 22 v0 d0 p0) (g1 : Arg enc Try.prog W base 31 v1 d1 p1) (g2 : Arg enc Try.prog W base 31 v2 d2 p2) :
    Calls Try.prog 4 #[v0, v1, v2] W fun e w' => e = .returned (.bool true) ∧ Below W.heap.size W w' := by
  obtain ⟨A, c, l, rfl, _, hl, hL, hF⟩ := arg_labs g0
  obtain ⟨A1, c1, a, rfl, _, ha, hA⟩ := arg_strs g1
  obtain ⟨A2, c2, b, rfl, _, hb, hB⟩ := arg_strs g2
  by_cases hc : fewB l = false ∨ 20 < a.length ∨ 20 < b.length
  · exact early W hL (Nat.le_refl _) hF hl ha hb hc
  · have : fewB l = true := by cases hq : fewB l; exact absurd (.inl hq) hc; rfl
    exact body W hL (Nat.le_refl _) hA (Nat.le_refl _) hB (Nat.le_refl _) hF hl this (by omega) (by omega)
end Go.Proofs.Ytbnlfljlomhngaa.lawLabelTwice
