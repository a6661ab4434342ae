/- The walk of LabelForms. -/
import Derived.Test.YtbnlfljlomhngaaLabS
import Derived.Test.YtbnlfljlomhngaaLabArg
namespace Go.Proofs.Ytbnlfljlomhngaa.lawLabelForms
open Go.RowKit

set_option maxRecDepth 100000 in
set_option maxHeartbeats 800000 in
theorem body (w : World) {B c : Nat} {A : Option Addr} {l : List Lab} (h : Labs w B A l) (hB : B ≤ w.heap.size) (hf : Fit l) (hn : l.length ≤ 4398046511104) :
    Calls Try.prog 3 #[.slice A l.length c] w fun e w' => e = .returned (.bool true) ∧ Below w.heap.size w w' := by
  have Hf := Lib.hid hf
  clear hf
  have hn2 : l.length ≤ 140737488355328 := by omega
  by_cases hfew : fewB l = true
  case neg =>
    have hfew : fewB l = false := by simpa using hfew
    go_enter Try.func3, Try.ntmps3
    go_wp2_with fail
    refine (lives_calls w).mono ?_
    rintro e w1 ⟨rfl, hb1⟩
    have h1 := h.below (hb1.mono hB)
    have s1 := hb1.size
    go_wp2_with fail
    refine (few_calls w1 h1 (by omega) Hf.out hn2).mono ?_
    rw [hfew]
    rintro e w2 ⟨rfl, hb2⟩
    have hb12 := hb1.trans (hb2.mono s1)
    have s2 := hb2.size
    go_wp2_with fail
    refine (lives_calls w2).mono ?_
    rintro e w3 ⟨rfl, hb3⟩
    go_wp2
    go_ret
    exact ⟨rfl, hb12.trans (hb3.mono (by omega))⟩
  case pos =>
    go_enter Try.func3, Try.ntmps3
    go_wp2_with fail
    refine (lives_calls w).mono ?_
    rintro e w1 ⟨rfl, hb1⟩
    have h1 := h.below (hb1.mono hB)
    have s1 := hb1.size
    go_wp2_with fail
    refine (few_calls w1 h1 (by omega) Hf.out hn2).mono ?_
    rw [hfew]
    rintro e w2 ⟨rfl, hb2⟩
    have h2 := h1.below (hb2.mono (by omega))
    have hb12 := hb1.trans (hb2.mono s1)
    have s2 := hb2.size
    clear h1 hfew
    go_wp2_with fail
    refine (twin_calls w2 h2 (by omega) hn).mono ?_
    rintro e w3 ⟨A', c', rfl, ho3, _, hb3⟩
    have h3 := h2.below (hb3.mono (by omega))
    have hb13 := hb12.trans (hb3.mono (by omega))
    have s3 := hb3.size
    clear h2
    by_cases hr : rightB l = true
    · go_wp2_with fail
      refine (text_yes w3 ho3 (Nat.le_refl _) Hf.out hn2 hr).mono ?_
      rintro e w4 ⟨rfl, hb4⟩
      have h4 := h3.below (hb4.mono (by omega))
      have ho4 := ho3.below hb4
      have hb14 := hb13.trans (hb4.mono (by omega))
      have s4 := hb4.size
      clear h3 ho3
      go_wp2_with fail
      refine (rightR_calls w4 h4 Hf.out hn2).mono ?_
      rw [hr]
      rintro e w5 ⟨rfl, hb5⟩
      have h5 := h4.below (hb5.mono (by omega))
      have ho5 := ho4.below (hb5.mono (by omega))
      have hb15 := hb14.trans (hb5.mono (by omega))
      have s5 := hb5.size
      clear h4 ho4
      go_wp2_with fail
      refine (right_calls w5 ho5 (by omega) Hf.out hn2).mono ?_
      rw [hr]
      rintro e w6 ⟨rfl, hb6⟩
      have h6 := h5.below (hb6.mono (by omega))
      have ho6 := ho5.below (hb6.mono (by omega))
      have hb16 := hb15.trans (hb6.mono (by omega))
      have s6 := hb6.size
      clear h5 ho5
      go_wp2_with fail
      refine (sameR_calls w6 ho6 h6 hn2 hn2).mono ?_
      rw [show sameB l l = true from dct rfl]
      rintro e w7 ⟨rfl, hb7⟩
      have h7 := h6.below (hb7.mono (by omega))
      have hb17 := hb16.trans (hb7.mono (by omega))
      have s7 := hb7.size
      clear h6 ho6
      go_wp2_with fail
      refine (textR_calls w7 h7 (by omega) hn2 hr).mono ?_
      rintro e w8 ⟨rfl, hb8⟩
      clear h7 hr
      go_wp2
      go_ret
      exact ⟨rfl, hb17.trans (hb8.mono (by omega))⟩
    · have hr : rightB l = false := by simpa using hr
      go_wp2_with fail
      refine (text_no w3 ho3 (Nat.le_refl _) Hf.out hn2 hr).mono ?_
      rintro e w4 ⟨rfl, hb4⟩
      have h4 := h3.below (hb4.mono (by omega))
      have ho4 := ho3.below hb4
      have hb14 := hb13.trans (hb4.mono (by omega))
      have s4 := hb4.size
      clear h3 ho3
      go_wp2_with fail
      refine (rightR_calls w4 h4 Hf.out hn2).mono ?_
      rw [hr]
      rintro e w5 ⟨rfl, hb5⟩
      have h5 := h4.below (hb5.mono (by omega))
      have ho5 := ho4.below (hb5.mono (by omega))
      have hb15 := hb14.trans (hb5.mono (by omega))
      have s5 := hb5.size
      clear h4 ho4
      go_wp2_with fail
      refine (right_calls w5 ho5 (by omega) Hf.out hn2).mono ?_
      rw [hr]
      rintro e w6 ⟨rfl, hb6⟩
      have h6 := h5.below (hb6.mono (by omega))
      have ho6 := ho5.below (hb6.mono (by omega))
      have hb16 := hb15.trans (hb6.mono (by omega))
      have s6 := hb6.size
      clear h5 ho5
      go_wp2_with fail
      refine (sameR_calls w6 ho6 h6 hn2 hn2).mono ?_
      rw [show sameB l l = true from dct rfl]
      rintro e w7 ⟨rfl, hb7⟩
      have hb17 := hb16.trans (hb7.mono (by omega))
      have s7 := hb7.size
      clear h6 ho6 hr
      go_wp2
      go_ret
      exact ⟨rfl, hb17⟩

theorem walk {H : Type} {enc : TypeId × Value → H} {W : World} {base : Nat} {v0 : Value} {d0 : DataW H} {p0 : List MemPlace} (g0 : Arg enc Try.prog W base 22 v0 d0 p0) :
    Calls Try.prog 3 #[v0] W fun e w' => e = .returned (.bool true) ∧ Below W.heap.size W w' := by
  obtain ⟨A, c, l, rfl, _, hl, hL, hF⟩ := arg_labs g0
  exact body W hL (Nat.le_refl _) hF hl
end Go.Proofs.Ytbnlfljlomhngaa.lawLabelForms
