/- The walk of LabelParts. -/
import Derived.Test.YtbnlfljlomhngaaLabQ
namespace Go.Proofs.Ytbnlfljlomhngaa.lawLabelParts
open Go.RowKit

theorem get_drop_hit {l : List Lab} {x : ByteArray} {m : Nat} (hm : m < l.length) (h : (labAt l m).1 = x) : getB (l.drop m) x = some (labAt l m).2 := by
  rw [List.drop_eq_getElem_cons hm, labAt_eq hm]
  unfold getB
  rw [List.find?_cons_of_pos (by simpa using h)]
  rfl
theorem get_drop_miss {l : List Lab} {x : ByteArray} {m : Nat} (hm : m < l.length) (h : (labAt l m).1 ≠ x) : getB (l.drop m) x = getB (l.drop (m + 1)) x := by
  rw [List.drop_eq_getElem_cons hm, labAt_eq hm]
  unfold getB
  rw [List.find?_cons_of_neg (by simpa using h)]

set_option maxRecDepth 100000 in
set_option maxHeartbeats 800000 in
theorem early (w : World) {B c c1 : Nat} {A A1 : Option Addr} {l : List Lab} {a : List ByteArray} (x : ByteArray) (h : Labs w B A l) (hB : B ≤ w.heap.size) (hf : Fit l) (hn : l.length ≤ 4398046511104)
    (hna : a.length ≤ 8796093022208) (hc : fewB l = false ∨ 30 < a.length) :
    Calls Try.prog 5 #[.slice A l.length c, .slice A1 a.length c1, .string x] w fun e w' => e = .returned (.bool true) ∧ Below w.heap.size w w' := by
  have Hf := Lib.hid hf
  clear hf
  have hn2 : l.length ≤ 140737488355328 := by omega
  have hcase : fewB l = false ∨ (fewB l = true ∧ (30 : Int) < (a.length : Int)) := by
    cases hq : fewB l
    · exact .inl rfl
    · rw [hq] at hc
      rcases hc with hc | hc
      · cases hc
      · exact .inr ⟨rfl, by omega⟩
  clear hc
  rcases hcase with hq | ⟨hq, h1⟩
  all_goals
    have HQ := Lib.hid hq
    clear hq
    try (have d1 := dct h1)
    go_enter Try.func5, Try.ntmps5
    go_wp2_with fail
    refine (lives_calls w).mono ?_
    rintro e w1 ⟨rfl, hb1⟩
    have h1' := h.below (hb1.mono hB)
    have s1 := hb1.size
    go_wp2_with fail
    refine (few_calls w1 h1' (by omega) Hf.out hn2).mono ?_
    rw [HQ.out]
    rintro e w2 ⟨rfl, hb2⟩
    have hb12 := hb1.trans (hb2.mono s1)
    have s2 := hb2.size
    go_wp2_with fail
    refine (lives_calls w2).mono ?_
    rintro e w3 ⟨rfl, hb3⟩
    go_wp2
    go_ret
    exact ⟨rfl, hb12.trans (hb3.mono (by omega))⟩

set_option maxRecDepth 100000 in
set_option maxHeartbeats 1600000 in
theorem body (w : World) {B B1 c c1 : Nat} {A A1 : Option Addr} {l : List Lab} {a : List ByteArray} (x : ByteArray) (h : Labs w B A l) (hB : B ≤ w.heap.size) (ha : Strs w B1 A1 a) (hB1 : B1 ≤ w.heap.size) (hf : Fit l) (hn : l.length ≤ 4398046511104)
    (hq : fewB l = true) (hna : a.length ≤ 30) :
    Calls Try.prog 5 #[.slice A l.length c, .slice A1 a.length c1, .string x] w fun e w' => e = .returned (.bool true) ∧ Below w.heap.size w w' := by
  have Hf := Lib.hid hf
  have hn2 : l.length ≤ 140737488355328 := by omega
  have a20 : ¬ (30 : Int) < (a.length : Int) := by omega
  have HQ := Lib.hid hq
  clear hf hq
  go_enter Try.func5, Try.ntmps5
  go_wp2_with fail
  refine (lives_calls w).mono ?_
  rintro e w1 ⟨rfl, hb1⟩
  have h1 := h.below (hb1.mono hB)
  have s1 := hb1.size
  go_wp2_with fail
  refine (few_calls w1 h1 (by omega) Hf.out hn2).mono ?_
  rw [HQ.out]
  rintro e w2 ⟨rfl, hb2⟩
  have hb02 := hb1.trans (hb2.mono s1)
  have h2 := h.below (hb02.mono hB)
  have a2 := ha.below (hb02.mono hB1)
  have s2 := hb02.size
  clear h1 hb1 hb2 s1 h ha
  go_wp2_with fail
  refine (twin_calls w2 h2 (by omega) hn).mono ?_
  rintro e w3 ⟨Ao, co, rfl, ho3, _, hb3⟩
  have h3 := h2.below (hb3.mono (by omega))
  have a3 := a2.below (hb3.mono (by omega))
  have hb03 := hb02.trans (hb3.mono s2)
  have s3 := hb3.size
  clear h2 a2
  go_wp2_with fail
  refine (part_calls w3 ho3 (Nat.le_refl _) a3 (by omega) hn (by omega)).mono ?_
  rintro e w4 ⟨Ap, cp, rfl, hp4, hop4, hb4⟩
  have h4 := h3.below (hb4.mono (by omega))
  have a4 := a3.below (hb4.mono (by omega))
  have ho4 := ho3.below hb4
  have hb04 := hb03.trans (hb4.mono (by omega))
  have s4 := hb4.size
  have hpl := part_le l a
  clear h3 a3 ho3
  go_wp2_with fail
  refine (get_calls w4 ho4 s4 hn x).mono ?_
  rintro e w5 ⟨rfl, hb5⟩
  have h5 := h4.below (hb5.mono (by omega))
  have a5 := a4.below (hb5.mono (by omega))
  have ho5 := ho4.below (hb5.mono s4)
  have hp5 := hp4.below hb5
  have hop5 := own_below hop4 hb5
  have hb05 := hb04.trans (hb5.mono (by omega))
  have s5 := hb5.size
  clear h4 a4 ho4 hp4 hop4
  go_wp2
  go_loopw [11, 12, 13] (fun v o i wr => ∃ (k : Nat) (z : Int), k ≤ l.length ∧ i = .int .i64 z ∧ z + 1 = (k : Int) ∧ Hid (v = .string (getV (getB (l.drop k) x)) ∧ o = .bool (getB (l.drop k) x).isSome) ∧ wr = w5) (fun _ _ i _ => (intOf i + 1).toNat)
  case atStart => exact ⟨l.length, _, Nat.le_refl _, rfl, by omega, Lib.hid (by rw [List.drop_length]; exact ⟨rfl, rfl⟩), rfl⟩
  case round =>
    obtain ⟨k, z, hk, rfl, hz, HG, rfl⟩ := hrel
    by_cases hk0 : 0 < k
    · obtain ⟨m, rfl⟩ : ∃ m : Nat, z = (m : Int) := ⟨z.toNat, by omega⟩
      have hm : m < l.length := by omega
      obtain rfl : k = m + 1 := by omega
      obtain ⟨bl, offl, rfl, _, hcl⟩ := h5.cellAt (show 0 < l.length by omega)
      obtain ⟨q0, q1⟩ := hcl m hm
      clear hcl
      by_cases he : (labAt l m).1 = x
      · have HG2 := Lib.hid (get_drop_hit hm he)
        have q : ((labAt l m).1.toList == x.toList) = true := by rw [he]; exact beq_self_eq_true _
        clear he
        go_wp2
        go_roundw
        case rel => exact ⟨m, (m : Int) - 1, by omega, by go_num, by omega, Lib.hid (by rw [HG2.out]; exact ⟨rfl, rfl⟩), by first | trivial | rfl⟩
        case measure => simp [intOf] <;> omega
      · have HG2 := Lib.hid (get_drop_miss hm he)
        have q : ((labAt l m).1.toList == x.toList) = false := by rw [bytes_eqd]; exact dcf he
        clear he
        go_wp2
        go_roundw
        case rel => exact ⟨m, (m : Int) - 1, by omega, by go_num, by omega, Lib.hid (by rw [HG2.out]; exact HG.out), by first | trivial | rfl⟩
        case measure => simp [intOf] <;> omega
    · obtain rfl : k = 0 := by omega
      have hg := HG.out
      rw [List.drop_zero] at hg
      obtain ⟨rfl, rfl⟩ := hg
      have hz0 : ¬ (0 : Int) ≤ z := by omega
      generalize getB l x = o at *
      go_wp2_with fail
      refine (partR_calls _ h5 (by omega) a5 (by omega) hn (by omega)).mono ?_
      rintro e w6 ⟨A6, c6, rfl, hp6, _, hb6⟩
      have h6 := h5.below (hb6.mono (by omega))
      have ho6 := ho5.below (hb6.mono (by omega))
      have hp56 := hp5.below (hb6.mono s5)
      have hop6 := own_below hop5 hb6
      have hb06 := hb05.trans (hb6.mono (by omega))
      have s6 := hb6.size
      clear h5 a5 ho5 hp5 hop5
      go_wp2_with fail
      refine (sameR_calls w6 hp56 hp6 (by omega) (by omega)).mono ?_
      rw [show sameB (partB l a) (partB l a) = true from dct rfl]
      rintro e w7 ⟨rfl, hb7⟩
      have h7 := h6.below (hb7.mono (by omega))
      have ho7 := ho6.below (hb7.mono (by omega))
      have hop7 := own_below hop6 hb7
      have hb07 := hb06.trans (hb7.mono (by omega))
      have s7 := hb7.size
      clear h6 ho6 hp56 hp6 hop6
      have ho_eq : (o.isSome == o.isSome) = true := beq_self_eq_true _
      go_wp2
      go_loopw [76] (fun i wr => ∃ k : Nat, k ≤ (partB l a).length ∧ i = .int .i64 (k : Int) ∧ (∃ xs, wr.ownsRow w3.heap.size 37 2 (.slice Ap (partB l a).length cp) (partB l a).length xs) ∧ Below w3.heap.size w7 wr) (fun i _ => (partB l a).length - (intOf i).toNat)
      case atStart => exact ⟨0, Nat.zero_le _, rfl, ⟨_, hop7⟩, Below.refl _ _⟩
      case round =>
        obtain ⟨k, hk, rfl, ⟨xs, hx⟩, hbel⟩ := hrel
        generalize hpn : (partB l a).length = n at *
        by_cases hlt : k < n
        · rcases hx.2 with ⟨_, h0⟩ | ⟨g, cap, cur, hv, hg, hrest⟩
          · omega
          · injection hv with hv1 hv2 hv3
            subst hv1 hv3
            have hlen := hx.1
            have c0 : wr.cell? ⟨g, k * 2, none⟩ = some (xs[k * 2]'(by omega)) := by rw [hx.cellAt (k * 2) (by omega), List.getElem?_eq_getElem (by omega)]
            have f0 := hx.frozenAt (k * 2)
            have Hst := Lib.hid (hx.stored (k * 2) (.string ⟨#[122]⟩)).1
            clear hrest hx
            go_wp2
            go_roundw
            case rel => exact ⟨k + 1, by omega, by go_num, ⟨_, Hst.out⟩, hbel.setCell hg _⟩
            case measure => simp [intOf]; omega
        · obtain rfl : k = n := by omega
          have h8 := h7.below (hbel.mono (by omega))
          have ho8 := ho7.below hbel
          have hb08 := hb07.trans (hbel.mono (by omega))
          clear h7 ho7 hx hop7
          have s8 := hbel.size
          go_wp2_with fail
          refine (sameR_calls _ ho8 h8 hn2 hn2).mono ?_
          rw [show sameB l l = true from dct rfl]
          rintro e w9 ⟨rfl, hb9⟩
          go_wp2
          go_ret
          exact ⟨rfl, hb08.trans (hb9.mono (by omega))⟩

theorem walk {H : Type} {enc : TypeId × Value → H} {W : World} {base : Nat} {v0 v1 v2 : Value} {d0 d1 d2 : DataW H} {p0 p1 p2 : List MemPlace} (g0 : Arg enc Try.prog W base 22 v0 d0 p0) (g1 : Arg enc Try.prog W base 31 v1 d1 p1) (g2 : Arg enc Try.prog W base 9 v2 d2 p2) :
    Calls Try.prog 5 #[v0, v1, v2] W fun e w' => e = .returned (.bool true) ∧ Below W.heap.size W w' := by
  obtain ⟨A, c, l, rfl, _, hl, hL, hF⟩ := arg_labs g0
  obtain ⟨A1, c1, a, rfl, _, ha, hA⟩ := arg_strs g1
  obtain ⟨x, rfl, _, _⟩ := g2.str Try.underlying9
  by_cases hc : fewB l = false ∨ 30 < a.length
  · exact early W x hL (Nat.le_refl _) hF hl ha hc
  · have : fewB l = true := by cases hq : fewB l; exact absurd (.inl hq) hc; rfl
    exact body W x hL (Nat.le_refl _) hA (Nat.le_refl _) hF hl this (by omega)
end Go.Proofs.Ytbnlfljlomhngaa.lawLabelParts
