/- The statements' helpers (chapter 14): Few, and a call as a whole. -/
import Derived.Test.YtlljpjehalodfaaProg
import Derived.Test.YtlljpjehalodfaaSaB
namespace Go.Proofs.Ytlljpjehalodfaa
open Go.RowKit
namespace St

set_option maxRecDepth 100000 in
set_option maxHeartbeats 1600000 in
theorem few_calls (w : World) {B c most : Nat} {A : Option Addr} {l : List Ac} (h : Acts w B A l) (hB : B ≤ w.heap.size) (hc : l.length ≤ c) (hl : l.length ≤ 4398046511104) (hm : 0 < most) :
    Calls Try.prog 11 #[.slice A l.length c, .int .i64 (most : Int)] w fun e w' => ∃ k, k ≤ l.length ∧ k ≤ most ∧ e = .returned (.slice A k c) ∧ Below w.heap.size w w' := by
  have HL := Lib.hid h
  clear h
  go_enter Try.func11, Try.ntmps11
  go_wp2
  go_loopw [5, 10] (fun n i wr => ∃ (j k : Nat), j ≤ l.length ∧ j ≤ most ∧ i = .int .i64 (j : Int) ∧ n = .int .i64 (k : Int) ∧ k ≤ 20000 ∧ Hid (Below w.heap.size w wr)) (fun _ i _ => l.length - (intOf i).toNat)
  case atStart => exact ⟨0, 0, Nat.zero_le _, Nat.zero_le _, rfl, rfl, Nat.zero_le _, Lib.hid (Below.refl _ _)⟩
  case round =>
    obtain ⟨j, k, hj, hjm, rfl, rfl, hk, HW⟩ := hrel
    obtain ⟨wi, rfl⟩ : ∃ wi : World, wi = wr := ⟨_, rfl⟩
    by_cases hlt : j < l.length
    · have d1 : decide ((j : Int) < (l.length : Int)) = true := dct (by omega)
      obtain ⟨b, off, rfl, hbB, hcell⟩ := (HL.out.below (HW.out.mono hB)).at_ hlt
      have HOK := Lib.hid ((HL.out.ok _ (ga_mem hlt)))
      have x0 := hcell 0 _ (by omega) rfl
      have x1 := hcell 1 _ (by omega) rfl
      have x2 := hcell 2 _ (by omega) rfl
      have x3 := hcell 3 _ (by omega) rfl
      have x4 := hcell 4 _ (by omega) rfl
      have x5 := hcell 5 _ (by omega) rfl
      have x6 := hcell 6 _ (by omega) rfl
      have x7 := hcell 7 _ (by omega) rfl
      rw [Nat.add_zero] at x0
      clear hcell
      generalize ga l j = a at *
      have hi0 : (0 : Int) ≤ (j : Int) := by omega
      have hi1 : (j : Int) < (l.length : Int) := by omega
      have hi2 : (j : Int) ≤ (c : Int) := by omega
      obtain ⟨m, hm1⟩ : ∃ m : Nat, min (a.d.length : Int) 300000 = (m : Int) := ⟨min a.d.length 300000, by omega⟩
      have hm2 : m ≤ 300000 := by omega
      have r1 : IntKind.i64.wrap ((k : Int) + (m : Int)) = (k : Int) + (m : Int) := by rw [IntKind.wrap_i64]; omega
      go_upto_region 6 with fail
      by_cases ha : 20000 < k + m
      · have d2 : decide ((20000 : Int) < (k : Int) + (m : Int)) = true := dct (by omega)
        go_wp2
        go_ret
        exact ⟨j, hj, hjm, rfl, (HW.out.alloc HW.out.size _)⟩
      · have d2 : decide ((20000 : Int) < (k : Int) + (m : Int)) = false := dcf (by omega)
        by_cases hb : most ≤ j
        · have d3 : decide ((most : Int) ≤ (j : Int)) = true := dct (by omega)
          go_wp2
          go_ret
          exact ⟨j, hj, hjm, rfl, (HW.out.alloc HW.out.size _)⟩
        · have d3 : decide ((most : Int) ≤ (j : Int)) = false := dcf (by omega)
          go_wp2
          go_roundw
          case rel => exact ⟨j + 1, k + m, by omega, by omega, by go_num, by push_cast; rfl, by omega, Lib.hid (HW.out.alloc HW.out.size _)⟩
          case measure => simp [intOf]; omega
    · obtain rfl : j = l.length := by omega
      have d1 : decide ((l.length : Int) < (l.length : Int)) = false := dcf (by omega)
      go_wp2
      go_ret
      exact ⟨l.length, Nat.le_refl _, hjm, rfl, HW.out⟩
end St
end Go.Proofs.Ytlljpjehalodfaa
