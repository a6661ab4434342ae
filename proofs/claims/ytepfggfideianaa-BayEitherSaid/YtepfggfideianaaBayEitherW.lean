/- The walk of BayEither: of two boxes the first one's things come first, then the second one's, then nothing; either may be missing. -/
import Derived.Test.YtepfggfideianaaBayB
import Derived.Test.YtepfggfideianaaOpen
namespace Go.Proofs.Ytepfggfideianaa.lawBayEither
open Go.RowKit Go.Conc

set_option maxRecDepth 100000 in
set_option maxHeartbeats 4000000 in
theorem body (w : World) {A A' : Option Addr} {c c' : Nat} {l m : List Int} (h : I64s w w.heap.size A l) (h' : I64s w w.heap.size A' m) (hn : l.length ≤ 140737488351232) (hn' : m.length ≤ 140737488351232) (x : Int) :
    Calls Try.prog 3 #[.slice A l.length c, .slice A' m.length c', .int .i64 x] w fun e w' => e = .returned (.bool true) ∧ Below w.heap.size w w' := by
  by_cases hbig : 100 < l.length ∨ (¬ 100 < l.length ∧ 100 < m.length)
  · rcases hbig with h1 | ⟨h1, h2⟩
    all_goals
      go_enter Try.func3, Try.ntmps3
      go_wp2_with fail
      refine (lives_calls w).mono ?_
      rintro e w1 ⟨rfl, hbel1⟩
      go_wp2_with fail
      refine (lives_calls w1).mono ?_
      rintro e w2 ⟨rfl, hbel2⟩
      go_wp2
      go_ret
      exact ⟨rfl, hbel1.trans (hbel2.mono hbel1.size)⟩
  · have hl : ¬ 100 < l.length := by omega
    have hm : ¬ 100 < m.length := by omega
    clear hbig
    go_enter Try.func3, Try.ntmps3
    go_wp2_with fail
    refine (lives_calls w).mono ?_
    rintro e w1 ⟨rfl, hbel1⟩
    have hnew := Lib.hid (new_ok w1 101 (by omega) (by omega))
    go_wp2_with fail
    refine hnew.out.mono ?_
    rintro e w2 ⟨rfl, hb2, hc2, hbel2⟩
    have hnew2 := Lib.hid (new_ok w2 101 (by omega) (by omega))
    go_wp2_with fail
    refine hnew2.out.mono ?_
    rintro e w3 ⟨rfl, hb3, hc3, hbel3⟩
    have s1 := hbel1.size
    have hb2' := hb2.below hbel3 hb2.lt
    have hc2' := hc2.below hbel3 hc2.lt
    have hg : w1.heap.size ≠ w2.heap.size := by have := hc2.lt; omega
    have hG1 : w.heap.size ≤ w1.heap.size := s1
    have hG2 : w.heap.size ≤ w2.heap.size := Nat.le_trans s1 hbel2.size
    have S1 : Side w3 (.pointer (some ⟨w1.heap.size + 1, 0, none⟩)) w1.heap.size l [] := .inr ⟨_, rfl, hb2', hc2'⟩
    have S2 : Side w3 (.pointer (some ⟨w2.heap.size + 1, 0, none⟩)) w2.heap.size m [] := .inr ⟨_, rfl, hb3, hc3⟩
    have hbel : Below w.heap.size w w3 := hbel1.trans ((hbel2.trans (hbel3.mono hbel2.size)).mono s1)
    have hs3 := hbel.size
    clear hnew hnew2 hb2 hc2 hb3 hc3 hb2' hc2' hbel1 hbel2 hbel3 s1
    generalize w1.heap.size = g1 at *
    generalize w2.heap.size = g2 at *
    have Hg := Lib.hid hg
    clear hg
    go_upto_if 40 with (fail)
    go_cut [0, 7] (fun s0 s7 wx => ∃ (A1 : Option Addr) (c1 : Nat) (F1 : List Int), s0 = .slice A1 F1.length c1 ∧ F1.length ≤ 100 ∧ I64s w w.heap.size A1 F1 ∧ Side w3 s7 g1 F1 [] ∧ w3 = wx)
    case first =>
      by_cases q : (bits .and .i64 x 1 == 1) = true
      · go_wp2_with fail
        go_meet
        exact ⟨none, 0, [], rfl, by simp, I64s.nil_, .inl ⟨rfl, rfl, rfl⟩, rfl⟩
      · have q' : (bits .and .i64 x 1 == 1) = false := by simpa using q
        clear q
        go_wp2_with fail
        go_meet
        exact ⟨A, c, l, rfl, by omega, h, S1, rfl⟩
    case rest =>
      clear S1
      obtain ⟨A1, c1, F1, rfl, hF1, hr1, S1, rfl⟩ := hcut
      go_upto_if 43 with (fail)
      go_cut [1, 8] (fun s1 s8 wx => ∃ (A2 : Option Addr) (c2 : Nat) (F2 : List Int), s1 = .slice A2 F2.length c2 ∧ F2.length ≤ 100 ∧ I64s w w.heap.size A2 F2 ∧ Side w3 s8 g2 F2 [] ∧ w3 = wx)
      case first =>
        by_cases q : (bits .and .i64 x 2 == 2) = true
        · go_wp2_with fail
          go_meet
          exact ⟨none, 0, [], rfl, by simp, I64s.nil_, .inl ⟨rfl, rfl, rfl⟩, rfl⟩
        · have q' : (bits .and .i64 x 2 == 2) = false := by simpa using q
          clear q
          go_wp2_with fail
          go_meet
          exact ⟨A', c', m, rfl, by omega, h', S2, rfl⟩
      case rest =>
        clear S2
        obtain ⟨A2, c2, F2, rfl, hF2, hr2, S2, rfl⟩ := hcut
        clear h h' hl hm
        go_wp2
        go_loopw [46] (fun i wr => ∃ k : Nat, k ≤ F1.length ∧ i = .int .i64 (k : Int) ∧ Side wr u7 g1 F1 (F1.take k) ∧ Side wr u8 g2 F2 ([]) ∧ Below w.heap.size w wr) (fun i _ => F1.length - (intOf i).toNat)
        case atStart => exact ⟨0, by omega, rfl, by simpa using S1, by simpa using S2, hbel⟩
        case round =>
          obtain ⟨k, hk, rfl, hS1, hS2, hbel⟩ := hrel
          have hsz := hbel.size
          by_cases hlt : k < F1.length
          · obtain ⟨b, off, rfl, _, hcell⟩ := (hr1.below hbel).cell (by omega)
            have c0 := hcell k hlt
            have Hsn := Lib.hid (take_getD hlt)
            have hne : F1 ≠ [] := by rintro rfl; simp at hlt
            have hlen : (F1.take k).length < 101 := by rw [List.length_take]; omega
            have Hne := Lib.hid hne
            clear hcell hne
            generalize F1.getD k 0 = y at *
            go_wp2_with fail
            refine (put_side wr y hS1 hS2 Hg.out Hne.out hlen).mono ?_
            rintro e w4 ⟨rfl, k1, k2, ko⟩
            rw [← Hsn.out] at k1
            go_wp2
            go_roundw
            case rel => exact ⟨k + 1, by omega, by go_num, k1, k2, hbel.trans (ko.below hG1 hsz)⟩
            case measure => simp [intOf]; omega
          · have hkl : F1.take k = F1 := List.take_of_length_le (by omega)
            rw [hkl] at hS1
            clear hkl
            go_wp2
            go_loopw [56] (fun i wr => ∃ k : Nat, k ≤ F2.length ∧ i = .int .i64 (k : Int) ∧ Side wr u7 g1 F1 (F1) ∧ Side wr u8 g2 F2 (F2.take k) ∧ Below w.heap.size w wr) (fun i _ => F2.length - (intOf i).toNat)
            case atStart => exact ⟨0, by omega, rfl, by simpa using hS1, by simpa using hS2, hbel⟩
            case round =>
              obtain ⟨k, hk, rfl, hS1, hS2, hbel⟩ := hrel
              have hsz := hbel.size
              by_cases hlt : k < F2.length
              · obtain ⟨b, off, rfl, _, hcell⟩ := (hr2.below hbel).cell (by omega)
                have c0 := hcell k hlt
                have Hsn := Lib.hid (take_getD hlt)
                have hne : F2 ≠ [] := by rintro rfl; simp at hlt
                have hlen : (F2.take k).length < 101 := by rw [List.length_take]; omega
                have Hne := Lib.hid hne
                clear hcell hne
                generalize F2.getD k 0 = y at *
                go_wp2_with fail
                refine (put_side wr y hS2 hS1 (fun e => Hg.out e.symm) Hne.out hlen).mono ?_
                rintro e w4 ⟨rfl, k1, k2, ko⟩
                rw [← Hsn.out] at k1
                go_wp2
                go_roundw
                case rel => exact ⟨k + 1, by omega, by go_num, k2, k1, hbel.trans (ko.below hG2 hsz)⟩
                case measure => simp [intOf]; omega
              · have hkl : F2.take k = F2 := List.take_of_length_le (by omega)
                rw [hkl] at hS2
                clear hkl
                go_wp2
                go_loopw [66] (fun i wr => ∃ k : Nat, k ≤ F1.length ∧ i = .int .i64 (k : Int) ∧ Side wr u7 g1 F1 (F1.drop k) ∧ Side wr u8 g2 F2 (F2) ∧ Below w.heap.size w wr) (fun i _ => F1.length - (intOf i).toNat)
                case atStart => exact ⟨0, by omega, rfl, by simpa using hS1, by simpa using hS2, hbel⟩
                case round =>
                  obtain ⟨k, hk, rfl, hS1, hS2, hbel⟩ := hrel
                  have hsz := hbel.size
                  by_cases hlt : k < F1.length
                  · obtain ⟨b, off, rfl, _, hcell⟩ := (hr1.below hbel).cell (by omega)
                    have c0 := hcell k hlt
                    rw [drop_getD hlt] at hS1
                    clear hcell
                    generalize F1.getD k 0 = y at *
                    go_wp2_with fail
                    refine (either_1 wr hS1 hS2 Hg.out).mono ?_
                    rintro e w4 ⟨rfl, k1, k2, ko⟩
                    go_wp2
                    go_roundw
                    case rel => exact ⟨k + 1, by omega, by go_num, k1, k2, hbel.trans (ko.below hG1 hsz)⟩
                    case measure => simp [intOf]; omega
                  · have hkl : F1.drop k = [] := List.drop_eq_nil_of_le (by omega)
                    rw [hkl] at hS1
                    clear hkl
                    go_wp2
                    go_loopw [86] (fun i wr => ∃ k : Nat, k ≤ F2.length ∧ i = .int .i64 (k : Int) ∧ Side wr u7 g1 F1 ([]) ∧ Side wr u8 g2 F2 (F2.drop k) ∧ Below w.heap.size w wr) (fun i _ => F2.length - (intOf i).toNat)
                    case atStart => exact ⟨0, by omega, rfl, by simpa using hS1, by simpa using hS2, hbel⟩
                    case round =>
                      obtain ⟨k, hk, rfl, hS1, hS2, hbel⟩ := hrel
                      have hsz := hbel.size
                      by_cases hlt : k < F2.length
                      · obtain ⟨b, off, rfl, _, hcell⟩ := (hr2.below hbel).cell (by omega)
                        have c0 := hcell k hlt
                        rw [drop_getD hlt] at hS2
                        clear hcell
                        generalize F2.getD k 0 = y at *
                        go_wp2_with fail
                        refine (either_2 wr hS1 hS2 Hg.out).mono ?_
                        rintro e w4 ⟨rfl, k1, k2, ko⟩
                        go_wp2
                        go_roundw
                        case rel => exact ⟨k + 1, by omega, by go_num, k1, k2, hbel.trans (ko.below hG2 hsz)⟩
                        case measure => simp [intOf]; omega
                      · have hkl : F2.drop k = [] := List.drop_eq_nil_of_le (by omega)
                        rw [hkl] at hS2
                        clear hkl
                        go_wp2_with fail
                        refine (either_0 wr hS1 hS2).mono ?_
                        rintro e w' ⟨rfl, rfl⟩
                        go_wp2
                        go_ret
                        exact ⟨rfl, hbel⟩

theorem walk {H : Type} {enc : TypeId × Value → H} {W : World} {base : Nat} {v0 v1 v2 : Value} {d0 d1 d2 : DataW H} {p0 p1 p2 : List MemPlace} (g0 : Arg enc Try.prog W base 22 v0 d0 p0) (g1 : Arg enc Try.prog W base 22 v1 d1 p1) (g2 : Arg enc Try.prog W base 3 v2 d2 p2) :
    Calls Try.prog 3 #[v0, v1, v2] W fun e w' => e = .returned (.bool true) ∧ Below W.heap.size W w' := by
  obtain ⟨A, n, c, l, rfl, rfl, hn, hm, hr, hb, -⟩ := g0.ints Try.underlying22 Try.underlying3 (by kernel_rfl)
  obtain ⟨A', n', c', l', rfl, rfl, hn', hm', hr', hb', -⟩ := g1.ints Try.underlying22 Try.underlying3 (by kernel_rfl)
  obtain ⟨z, rfl, -, -⟩ := g2.int Try.underlying3
  have e8 : Try.prog.bytesOf 3 = 8 := by kernel_rfl
  rw [e8] at hr hr'
  exact body W hb hb' (by omega) (by omega) z
end Go.Proofs.Ytepfggfideianaa.lawBayEither
