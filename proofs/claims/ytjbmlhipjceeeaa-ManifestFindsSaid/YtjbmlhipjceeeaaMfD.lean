/- Entries: are they right? Of the program and of the document (chapter 13). -/
import Derived.Test.YtjbmlhipjceeeaaProg
import Derived.Test.YtjbmlhipjceeeaaMfC
namespace Go.Proofs.Ytjbmlhipjceeeaa.Mf
open Go.RowKit Go.Proofs.Ytjbmlhipjceeeaa

abbrev enV (x : En) : Value := .agg #[.string x.key, .int .i64 x.window, .string x.part, .int .i64 x.first, .int .i64 x.last, .int .i64 x.rows, .int .i64 x.size, .int .u32 x.sum, .int .i64 x.born]
set_option maxRecDepth 100000 in
set_option maxHeartbeats 3200000 in
theorem entry_calls (x : En) (w : World) (hx : x.Ok) (hp : x.part.size ≤ 100000) (hm : Sh w) : Calls Try.prog 35 #[enV x] w fun e w' => e = .returned (.bool (enB x)) ∧ Below w.heap.size w w' := by
  have HN := Lib.hid num_calls
  have HK := Lib.hid (fun W => key_calls x.key W hx.key)
  have HB := Lib.hid ((Below.refl w.heap.size w).alloc (Nat.le_refl _) (.cells #[.string x.key, .int .i64 x.window, .string x.part, .int .i64 x.first, .int .i64 x.last, .int .i64 x.rows, .int .i64 x.size, .int .u32 x.sum, .int .i64 x.born] 37))
  have HM := Lib.hid (hm.below HB.out hm.lt)
  have HD : Hid (enB x = (parB x.part && keyB x.key && numB x.window 0 && decide (0 ≤ x.first) && decide (x.first ≤ x.last) && decide (x.last < 1099511627776) && decide (1 ≤ x.rows) && decide (x.rows ≤ 2048) && decide (1 ≤ x.size) && decide (x.size ≤ 262144) && numB x.born 0)) := Lib.hid rfl
  generalize enB x = out at *
  clear hm hx
  cases hpar : parB x.part
  · have HP := Lib.hid (fun W (hW : Sh W) => par_no x.part W hp hW hpar)
    have HV : Hid (out = false) := Lib.hid (by rw [HD.out, hpar]; simp)
    clear hpar HD
    go_enter Try.func35, Try.ntmps35
    go_wp2_with fail
    refine (HP.out _ HM.out).mono ?_
    rintro e w1 ⟨⟨v, rfl⟩, hb1⟩
    have hbk : Blk w1 w.heap.size 37 #[.string x.key, .int .i64 x.window, .string x.part, .int .i64 x.first, .int .i64 x.last, .int .i64 x.rows, .int .i64 x.size, .int .u32 x.sum, .int .i64 x.born] := (Blk.new w 37 #[.string x.key, .int .i64 x.window, .string x.part, .int .i64 x.first, .int .i64 x.last, .int .i64 x.rows, .int .i64 x.size, .int .u32 x.sum, .int .i64 x.born]).below hb1 (by simp)
    obtain ⟨p0, p1, p2, p3, p4, p5, p6, p7, p8⟩ : w1.cell? ⟨w.heap.size, 0, none⟩ = some (.string x.key) ∧ w1.cell? ⟨w.heap.size, 1, none⟩ = some (.int .i64 x.window) ∧ w1.cell? ⟨w.heap.size, 2, none⟩ = some (.string x.part) ∧ w1.cell? ⟨w.heap.size, 3, none⟩ = some (.int .i64 x.first) ∧ w1.cell? ⟨w.heap.size, 4, none⟩ = some (.int .i64 x.last) ∧ w1.cell? ⟨w.heap.size, 5, none⟩ = some (.int .i64 x.rows) ∧ w1.cell? ⟨w.heap.size, 6, none⟩ = some (.int .i64 x.size) ∧ w1.cell? ⟨w.heap.size, 7, none⟩ = some (.int .u32 x.sum) ∧ w1.cell? ⟨w.heap.size, 8, none⟩ = some (.int .i64 x.born) := ⟨hbk.cell 0, hbk.cell 1, hbk.cell 2, hbk.cell 3, hbk.cell 4, hbk.cell 5, hbk.cell 6, hbk.cell 7, hbk.cell 8⟩
    have HB1 := Lib.hid (HB.out.trans (hb1.mono (by simp)))
    clear hbk hb1
    by_cases e0 : keyB x.key = true
    · have te0 : keyB x.key = true := e0
      by_cases e1 : numB x.window 0 = true
      · have te1 : numB x.window 0 = true := e1
        go_wp2_with first | (go_at_call 33; refine (HN.out _ _ _).mono ?_; rintro e w2 ⟨rfl, rfl⟩) | (go_at_call 41; refine (HK.out _).mono ?_; rintro e w2 ⟨rfl, rfl⟩)
        go_ret
        exact ⟨by rw [HV.out]; rfl, HB1.out⟩
      · have te1 : numB x.window 0 = false := by simpa using e1
        go_wp2_with first | (go_at_call 33; refine (HN.out _ _ _).mono ?_; rintro e w2 ⟨rfl, rfl⟩) | (go_at_call 41; refine (HK.out _).mono ?_; rintro e w2 ⟨rfl, rfl⟩)
        go_ret
        exact ⟨by rw [HV.out]; rfl, HB1.out⟩
    · have te0 : keyB x.key = false := by simpa using e0
      go_wp2_with first | (go_at_call 33; refine (HN.out _ _ _).mono ?_; rintro e w2 ⟨rfl, rfl⟩) | (go_at_call 41; refine (HK.out _).mono ?_; rintro e w2 ⟨rfl, rfl⟩)
      go_ret
      exact ⟨by rw [HV.out]; rfl, HB1.out⟩
  · have HP := Lib.hid (fun W (hW : Sh W) => par_yes x.part W hp hW hpar)
    have HD2 : Hid (out = (keyB x.key && numB x.window 0 && decide (0 ≤ x.first) && decide (x.first ≤ x.last) && decide (x.last < 1099511627776) && decide (1 ≤ x.rows) && decide (x.rows ≤ 2048) && decide (1 ≤ x.size) && decide (x.size ≤ 262144) && numB x.born 0)) := Lib.hid (by rw [HD.out, hpar]; rfl)
    clear hpar HD
    go_enter Try.func35, Try.ntmps35
    go_wp2_with fail
    refine (HP.out _ HM.out).mono ?_
    rintro e w1 ⟨⟨v, rfl⟩, hb1⟩
    have hbk : Blk w1 w.heap.size 37 #[.string x.key, .int .i64 x.window, .string x.part, .int .i64 x.first, .int .i64 x.last, .int .i64 x.rows, .int .i64 x.size, .int .u32 x.sum, .int .i64 x.born] := (Blk.new w 37 #[.string x.key, .int .i64 x.window, .string x.part, .int .i64 x.first, .int .i64 x.last, .int .i64 x.rows, .int .i64 x.size, .int .u32 x.sum, .int .i64 x.born]).below hb1 (by simp)
    obtain ⟨p0, p1, p2, p3, p4, p5, p6, p7, p8⟩ : w1.cell? ⟨w.heap.size, 0, none⟩ = some (.string x.key) ∧ w1.cell? ⟨w.heap.size, 1, none⟩ = some (.int .i64 x.window) ∧ w1.cell? ⟨w.heap.size, 2, none⟩ = some (.string x.part) ∧ w1.cell? ⟨w.heap.size, 3, none⟩ = some (.int .i64 x.first) ∧ w1.cell? ⟨w.heap.size, 4, none⟩ = some (.int .i64 x.last) ∧ w1.cell? ⟨w.heap.size, 5, none⟩ = some (.int .i64 x.rows) ∧ w1.cell? ⟨w.heap.size, 6, none⟩ = some (.int .i64 x.size) ∧ w1.cell? ⟨w.heap.size, 7, none⟩ = some (.int .u32 x.sum) ∧ w1.cell? ⟨w.heap.size, 8, none⟩ = some (.int .i64 x.born) := ⟨hbk.cell 0, hbk.cell 1, hbk.cell 2, hbk.cell 3, hbk.cell 4, hbk.cell 5, hbk.cell 6, hbk.cell 7, hbk.cell 8⟩
    have HB1 := Lib.hid (HB.out.trans (hb1.mono (by simp)))
    clear hbk hb1
    by_cases e0 : keyB x.key = true
    · have te0 : keyB x.key = true := e0
      by_cases e1 : numB x.window 0 = true
      · have te1 : numB x.window 0 = true := e1
        by_cases e2 : 0 ≤ x.first
        · have te2 : decide (0 ≤ x.first) = true := dct e2
          by_cases e3 : x.first ≤ x.last
          · have te3 : decide (x.first ≤ x.last) = true := dct e3
            by_cases e4 : x.last < 1099511627776
            · have te4 : decide (x.last < 1099511627776) = true := dct e4
              by_cases e5 : 1 ≤ x.rows
              · have te5 : decide (1 ≤ x.rows) = true := dct e5
                by_cases e6 : x.rows ≤ 2048
                · have te6 : decide (x.rows ≤ 2048) = true := dct e6
                  by_cases e7 : 1 ≤ x.size
                  · have te7 : decide (1 ≤ x.size) = true := dct e7
                    by_cases e8 : x.size ≤ 262144
                    · have te8 : decide (x.size ≤ 262144) = true := dct e8
                      have HV : Hid (out = numB x.born 0) := Lib.hid (by rw [HD2.out, te0, te1, te2, te3, te4, te5, te6, te7, te8]; rfl)
                      clear HD2
                      go_wp2_with first | (go_at_call 33; refine (HN.out _ _ _).mono ?_; rintro e w2 ⟨rfl, rfl⟩) | (go_at_call 41; refine (HK.out _).mono ?_; rintro e w2 ⟨rfl, rfl⟩)
                      go_ret
                      exact ⟨by rw [HV.out]; rfl, HB1.out⟩
                    · have te8 : decide (x.size ≤ 262144) = false := dcf e8
                      have HV : Hid (out = false) := Lib.hid (by rw [HD2.out, te8]; simp)
                      clear HD2
                      go_wp2_with first | (go_at_call 33; refine (HN.out _ _ _).mono ?_; rintro e w2 ⟨rfl, rfl⟩) | (go_at_call 41; refine (HK.out _).mono ?_; rintro e w2 ⟨rfl, rfl⟩)
                      go_ret
                      exact ⟨by rw [HV.out]; rfl, HB1.out⟩
                  · have te7 : decide (1 ≤ x.size) = false := dcf e7
                    have HV : Hid (out = false) := Lib.hid (by rw [HD2.out, te7]; simp)
                    clear HD2
                    go_wp2_with first | (go_at_call 33; refine (HN.out _ _ _).mono ?_; rintro e w2 ⟨rfl, rfl⟩) | (go_at_call 41; refine (HK.out _).mono ?_; rintro e w2 ⟨rfl, rfl⟩)
                    go_ret
                    exact ⟨by rw [HV.out]; rfl, HB1.out⟩
                · have te6 : decide (x.rows ≤ 2048) = false := dcf e6
                  have HV : Hid (out = false) := Lib.hid (by rw [HD2.out, te6]; simp)
                  clear HD2
                  go_wp2_with first | (go_at_call 33; refine (HN.out _ _ _).mono ?_; rintro e w2 ⟨rfl, rfl⟩) | (go_at_call 41; refine (HK.out _).mono ?_; rintro e w2 ⟨rfl, rfl⟩)
                  go_ret
                  exact ⟨by rw [HV.out]; rfl, HB1.out⟩
              · have te5 : decide (1 ≤ x.rows) = false := dcf e5
                have HV : Hid (out = false) := Lib.hid (by rw [HD2.out, te5]; simp)
                clear HD2
                go_wp2_with first | (go_at_call 33; refine (HN.out _ _ _).mono ?_; rintro e w2 ⟨rfl, rfl⟩) | (go_at_call 41; refine (HK.out _).mono ?_; rintro e w2 ⟨rfl, rfl⟩)
                go_ret
                exact ⟨by rw [HV.out]; rfl, HB1.out⟩
            · have te4 : decide (x.last < 1099511627776) = false := dcf e4
              have HV : Hid (out = false) := Lib.hid (by rw [HD2.out, te4]; simp)
              clear HD2
              go_wp2_with first | (go_at_call 33; refine (HN.out _ _ _).mono ?_; rintro e w2 ⟨rfl, rfl⟩) | (go_at_call 41; refine (HK.out _).mono ?_; rintro e w2 ⟨rfl, rfl⟩)
              go_ret
              exact ⟨by rw [HV.out]; rfl, HB1.out⟩
          · have te3 : decide (x.first ≤ x.last) = false := dcf e3
            have HV : Hid (out = false) := Lib.hid (by rw [HD2.out, te3]; simp)
            clear HD2
            go_wp2_with first | (go_at_call 33; refine (HN.out _ _ _).mono ?_; rintro e w2 ⟨rfl, rfl⟩) | (go_at_call 41; refine (HK.out _).mono ?_; rintro e w2 ⟨rfl, rfl⟩)
            go_ret
            exact ⟨by rw [HV.out]; rfl, HB1.out⟩
        · have te2 : decide (0 ≤ x.first) = false := dcf e2
          have HV : Hid (out = false) := Lib.hid (by rw [HD2.out, te2]; simp)
          clear HD2
          go_wp2_with first | (go_at_call 33; refine (HN.out _ _ _).mono ?_; rintro e w2 ⟨rfl, rfl⟩) | (go_at_call 41; refine (HK.out _).mono ?_; rintro e w2 ⟨rfl, rfl⟩)
          go_ret
          exact ⟨by rw [HV.out]; rfl, HB1.out⟩
      · have te1 : numB x.window 0 = false := by simpa using e1
        have HV : Hid (out = false) := Lib.hid (by rw [HD2.out, te1]; simp)
        clear HD2
        go_wp2_with first | (go_at_call 33; refine (HN.out _ _ _).mono ?_; rintro e w2 ⟨rfl, rfl⟩) | (go_at_call 41; refine (HK.out _).mono ?_; rintro e w2 ⟨rfl, rfl⟩)
        go_ret
        exact ⟨by rw [HV.out]; rfl, HB1.out⟩
    · have te0 : keyB x.key = false := by simpa using e0
      have HV : Hid (out = false) := Lib.hid (by rw [HD2.out, te0]; simp)
      clear HD2
      go_wp2_with first | (go_at_call 33; refine (HN.out _ _ _).mono ?_; rintro e w2 ⟨rfl, rfl⟩) | (go_at_call 41; refine (HK.out _).mono ?_; rintro e w2 ⟨rfl, rfl⟩)
      go_ret
      exact ⟨by rw [HV.out]; rfl, HB1.out⟩
end Go.Proofs.Ytjbmlhipjceeeaa.Mf
