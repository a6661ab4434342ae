/- The same things; calls on a missing bay (chapter 15). -/
import Derived.Test.YtepfggfideianaaProg
import Derived.Test.YtepfggfideianaaByH
namespace Go.Proofs.Ytepfggfideianaa
open Go.RowKit Go.Conc
namespace By

theorem putBay_nil0 (w : World) : Calls Try.prog 19 #[.pointer none, .slice none 0 0] w fun e w' => e = .returned (.bool true) ∧ w = w' := by
  go_enter Try.func19, Try.ntmps19
  go_wp2
  go_ret
  exact ⟨rfl, rfl⟩
theorem putBay_nil1 (w : World) (A : Option Addr) : Calls Try.prog 19 #[.pointer none, .slice A 1 1] w fun e w' => e = .returned (.bool false) ∧ w = w' := by
  go_enter Try.func19, Try.ntmps19
  go_wp2
  go_ret
  exact ⟨rfl, rfl⟩
set_option maxRecDepth 100000 in
set_option maxHeartbeats 1600000 in
theorem same_calls (w : World) {B1 B2 c1 c2 : Nat} {A1 A2 : Option Addr} {D : List KX} (h1 : Kx w B1 A1 D) (h2 : Kx w B2 A2 D) (hn : D.length ≤ 1000000) :
    Calls Try.prog 23 #[.slice A1 D.length c1, .slice A2 D.length c2] w fun e w' => e = .returned (.bool true) ∧ Below w.heap.size w w' := by
  have H1 := Lib.hid h1
  have H2 := Lib.hid h2
  have hne : ((D.length : Int) != (D.length : Int)) = false := nef rfl
  clear h1 h2
  go_enter Try.func23, Try.ntmps23
  go_wp2
  go_loopw [13] (fun i wr => ∃ j d : Nat, j ≤ D.length ∧ i = .int .i64 (j : Int) ∧ Hid (wr = w.drewN d)) (fun i _ => D.length - (intOf i).toNat)
  case atStart => exact ⟨0, 0, Nat.zero_le _, rfl, Lib.hid rfl⟩
  case round =>
    obtain ⟨j, d, hj, rfl, HE⟩ := hrel
    obtain rfl := HE.out
    by_cases hlt : j < D.length
    · obtain ⟨b, o, e, hb, hc⟩ := rd_cells (H1.out) (by omega)
      obtain ⟨b', o', e', hb', hc'⟩ := rd_cells (H2.out) (by omega)
      obtain ⟨x0, x1⟩ := hc j hlt
      obtain ⟨y0, y1⟩ := hc' j hlt
      have i0 : (0 : Int) ≤ (j : Int) := by omega
      have i9 : (j : Int) < (D.length : Int) := by omega
      clear hc hc' HE
      subst e e'
      generalize gk D j = x at *
      have hs : (x.1.toList == x.1.toList) = true := by simp
      have hi : (x.2 != x.2) = false := nef rfl
      go_wp2_with fail
      go_quiet (fail)
      go_wp2
      go_roundw
      case rel => exact ⟨j + 1, _, by omega, by go_num, Lib.hid rfl⟩
      case measure => simp [intOf]; omega
    · obtain rfl : j = D.length := by omega
      go_wp2
      go_ret
      exact ⟨rfl, below_drewN_ (Below.refl _ _) d⟩
/-- A stronger condition serves from here on. -/
theorem wpAnyH_strong {P : Program} {md : Region.Mode} {ops : Array Oper} {Q : Exit → Act → World → Prop} {S S2 : World → Prop} (h : ∀ w, S2 w → S w) :
    ∀ (fuel : Nat) (listed : Array Bool) (a : Act) (w : World), wpAnyH P md ops Q S2 fuel listed a w → wpAnyH P md ops Q S fuel listed a w
  | 0, _, _, _, hw => hw
  | fuel + 1, _, _, _, hw => ⟨hw.1, fun i hi => wpOp_mono (fun a' w' h' => ⟨h w' h'.1, wpAnyH_strong h fuel _ a' w' h'.2⟩) (hw.2 i hi)⟩
end By
end Go.Proofs.Ytepfggfideianaa
