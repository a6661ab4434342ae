/- Contracts of the package delta (chapter 4) and of its reference: Decode. -/
import Derived.Test.YtpenjandhgcgeaaDelC
namespace Go.Proofs.Ytpenjandhgcgeaa
open Go.RowKit

theorem dloop_err {b : List UInt8} {v u k at_ : Nat} {o : List Int} {R : List Int × Nat × Nat} (hk : k < u) (h : dloop b v (u - k) at_ o = R) (he : (readU b at_).2.2 ≠ 0) : R = ([], 0, (readU b at_).2.2) := by
  obtain ⟨c, hc⟩ : ∃ c, u - k = c + 1 := ⟨u - k - 1, by omega⟩
  rw [hc] at h; simp only [dloop] at h; rw [if_pos he] at h; exact h.symm
theorem dloop_bad {b : List UInt8} {v u k at_ : Nat} {o : List Int} {R : List Int × Nat × Nat} (hk : k < u) (h : dloop b v (u - k) at_ o = R) (he : (readU b at_).2.2 = 0) (hi : ¬ inB (dbase v o + zagI (readU b at_).1) = true) : R = ([], 0, 2) := by
  obtain ⟨c, hc⟩ : ∃ c, u - k = c + 1 := ⟨u - k - 1, by omega⟩
  rw [hc] at h; simp only [dloop] at h; rw [if_neg (by simp [he]), if_neg hi] at h; exact h.symm
theorem dloop_ok {b : List UInt8} {v u k at_ : Nat} {o : List Int} {R : List Int × Nat × Nat} (hk : k < u) (h : dloop b v (u - k) at_ o = R) (he : (readU b at_).2.2 = 0) (hi : inB (dbase v o + zagI (readU b at_).1) = true) :
    dloop b v (u - (k + 1)) (at_ + (readU b at_).2.1) (o ++ [dbase v o + zagI (readU b at_).1]) = R := by
  obtain ⟨c, hc⟩ : ∃ c, u - k = c + 1 := ⟨u - k - 1, by omega⟩
  have hc2 : u - (k + 1) = c := by omega
  rw [hc] at h; simp only [dloop] at h; rw [if_neg (by simp [he]), if_pos hi] at h; rw [hc2]; exact h
theorem dloop_end {b : List UInt8} {v u k at_ : Nat} {o : List Int} {R : List Int × Nat × Nat} (hk : u ≤ k) (h : dloop b v (u - k) at_ o = R) : R = (o, at_, 0) := by
  have hc : u - k = 0 := by omega
  rw [hc] at h; simp only [dloop] at h; exact h.symm

theorem ddec_arg {b : List UInt8} {way : Int} (h : way < 0 ∨ 2 < way) : ddec b way = ([], 1) := by unfold ddec; rw [if_pos h]
theorem ddec_err {b : List UInt8} {v : Nat} (hv : v ≤ 2) (h : (readU b 0).2.2 ≠ 0) : ddec b (v : Int) = ([], (readU b 0).2.2) := by unfold ddec; rw [if_neg (by omega), if_pos h]
theorem ddec_long {b : List UInt8} {v : Nat} (hv : v ≤ 2) (h : (readU b 0).2.2 = 0) (hl : 2048 < (readU b 0).1) : ddec b (v : Int) = ([], 5) := by unfold ddec; rw [if_neg (by omega), if_neg (by simp [h]), if_pos hl]
theorem ddec_loop {b : List UInt8} {v : Nat} (hv : v ≤ 2) (h : (readU b 0).2.2 = 0) (hl : ¬ 2048 < (readU b 0).1) {R : List Int × Nat × Nat} (hR : dloop b v (readU b 0).1 (readU b 0).2.1 [] = R) :
    ddec b (v : Int) = if R.2.2 ≠ 0 then ([], R.2.2) else if R.2.1 < b.length then ([], 5) else (R.1, 0) := by
  unfold ddec; rw [if_neg (by omega), if_neg (by simp [h]), if_neg hl, Int.toNat_natCast, hR]
theorem ddec_fail {b : List UInt8} {v : Nat} {R : List Int × Nat × Nat} {x : Nat} (h : ddec b (v : Int) = if R.2.2 ≠ 0 then ([], R.2.2) else if R.2.1 < b.length then ([], 5) else (R.1, 0)) (hR : R = ([], 0, x)) (hx : x ≠ 0) : ddec b (v : Int) = ([], x) := by
  subst hR; rw [h, if_pos hx]
theorem ddec_more {b : List UInt8} {v : Nat} {R : List Int × Nat × Nat} {o : List Int} {at_ : Nat} (h : ddec b (v : Int) = if R.2.2 ≠ 0 then ([], R.2.2) else if R.2.1 < b.length then ([], 5) else (R.1, 0)) (hR : R = (o, at_, 0)) (hx : at_ < b.length) : ddec b (v : Int) = ([], 5) := by
  subst hR; rw [h, if_neg (by simp), if_pos hx]
theorem ddec_done {b : List UInt8} {v : Nat} {R : List Int × Nat × Nat} {o : List Int} {at_ : Nat} (h : ddec b (v : Int) = if R.2.2 ≠ 0 then ([], R.2.2) else if R.2.1 < b.length then ([], 5) else (R.1, 0)) (hR : R = (o, at_, 0)) (hx : ¬ at_ < b.length) : ddec b (v : Int) = (o, 0) := by
  subst hR; rw [h, if_neg (by simp), if_neg hx]

/-! what the next integer is added to, case by case -/
theorem dbase_0 {v k : Nat} {o : List Int} (hk : o.length = k) (h : v = 0 ∨ k = 0) : dbase v o = 0 := by unfold dbase; rw [if_neg (by omega), if_neg (by omega)]
theorem dbase_1 {v k : Nat} {o : List Int} (hk : o.length = k) (h : (v = 1 ∧ 1 ≤ k) ∨ (v = 2 ∧ k = 1)) : dbase v o = o.getD (k - 1) 0 := by unfold dbase; rw [hk, if_neg (by omega), if_pos (by omega)]
theorem dbase_2 {v k : Nat} {o : List Int} (hk : o.length = k) (h : v = 2 ∧ 2 ≤ k) : dbase v o = 2 * o.getD (k - 1) 0 - o.getD (k - 2) 0 := by unfold dbase; rw [hk, if_pos (by omega)]
theorem snoc_last {o : List Int} {k : Nat} (hk : o.length = k) (x : Int) : (o ++ [x]).getD (k + 1 - 1) 0 = x := by subst hk; simp
theorem snoc_prev {o : List Int} {k : Nat} (hk : o.length = k) (h : 1 ≤ k) (x : Int) : (o ++ [x]).getD (k + 1 - 2) 0 = o.getD (k - 1) 0 := by
  subst hk
  have e : o.length + 1 - 2 = o.length - 1 := by omega
  rw [e]
  have : o.length - 1 < o.length := by omega
  simp [List.getD, List.getElem?_append, this]
theorem snoc_all {o : List Int} {x : Int} (h : o.all inB = true) (hx : inB x = true) : (o ++ [x]).all inB = true := by rw [List.all_append, h]; simp [hx]
theorem nil_last : ([] : List Int).getD (0 - 1) 0 = 0 := rfl

/-- How the next integer is come to: its case, the base, and the bounds. -/
theorem next_in {E : Int} (h : inB E = true) : ¬ E < -1152921504606846976 ∧ ¬ 1152921504606846976 < E := by rw [inB_iff] at h; omega
theorem next_out {E : Int} (h : ¬ inB E = true) : E < -1152921504606846976 ∨ (¬ E < -1152921504606846976 ∧ 1152921504606846976 < E) := by rw [inB_iff] at h; omega

set_option maxRecDepth 100000 in
set_option maxHeartbeats 4000000 in
theorem decode_calls (w : World) {B c : Nat} {A : Option Addr} {b : List UInt8} (way : Int) (h : Bytes w B A b.length b) (hB : B ≤ w.heap.size) (hc : b.length ≤ c) (hn : b.length ≤ 140737488355328) :
    Calls Try.prog 20 #[.slice A b.length c, .int .i64 way] w (RetIE w (ddec b way)) := by
  by_cases hw : way < 0 ∨ 2 < way
  · have H := Lib.hid (ddec_arg (b := b) hw)
    have hw' : way < 0 ∨ (¬ way < 0 ∧ 2 < way) := by omega
    clear hw
    rcases hw' with hw | ⟨hw, hw2⟩
    all_goals
      go_enter Try.func20, Try.ntmps20
      go_wp2
      go_ret2
      rw [H.out]
      exact ⟨_, rfl, World.ownsRow_nil _ _ _ _, Below.refl _ _⟩
  obtain ⟨v, rfl, hv⟩ := way_nat hw
  clear hw
  have w0 : ¬ (v : Int) < 0 := by omega
  have w2 : ¬ 2 < (v : Int) := by omega
  have hU := u_calls w h 0 hc (by omega)
  by_cases he : (readU b 0).2.2 = 0
  · by_cases hl : 2048 < (readU b 0).1
    · have H := Lib.hid (ddec_long hv he hl)
      have q : ((((readU b 0).2.2 : Nat) : Int) != 0) = false := nef (by omega)
      have HU := Lib.hid hU
      clear hU he
      generalize readU b 0 = r at *
      obtain ⟨u, at0, e0⟩ := r
      dsimp only at q hl
      go_enter Try.func20, Try.ntmps20
      go_wp2_with fail
      refine HU.out.mono ?_
      rintro e w' ⟨rfl, rfl⟩
      dsimp only at ⊢
      go_wp2
      go_ret2
      rw [H.out]
      exact ⟨_, rfl, World.ownsRow_nil _ _ _ _, Below.refl _ _⟩
    · have q : ((((readU b 0).2.2 : Nat) : Int) != 0) = false := nef (by omega)
      have H := Lib.hid (fun R => @ddec_loop b v hv he hl R)
      have HU := Lib.hid hU
      have hat := (readU_max b 0).2
      clear hU he
      generalize readU b 0 = r at *
      obtain ⟨u, at0, e0⟩ := r
      dsimp only at q hl hat H
      obtain ⟨R, hR⟩ : ∃ R, dloop b v u at0 [] = R := ⟨_, rfl⟩
      have HD := Lib.hid (H.out R hR)
      have HR0 : Hid (dloop b v (u - 0) at0 [] = R) := Lib.hid hR
      clear hR H
      go_enter Try.func20, Try.ntmps20
      go_wp2_with fail
      refine HU.out.mono ?_
      rintro e w' ⟨rfl, rfl⟩
      dsimp only at ⊢
      go_wp2
      go_loopw [7, 9, 10, 11, 37] (fun at_ out la st i wr => ∃ (k p : Nat) (o : List Int) (s : Int), i = .int .i64 (k : Int) ∧ at_ = .int .i64 (p : Int) ∧ la = .int .i64 (o.getD (k - 1) 0) ∧ st = .int .i64 s ∧ k ≤ u ∧ p ≤ 10 + 10 * k ∧ Hid (o.length = k) ∧ wr.ownsRow w.heap.size 2 1 out o.length (o.map (Value.int .i64)) ∧ Hid (o.all inB = true) ∧ Hid (v = 2 → 2 ≤ k → s = o.getD (k - 1) 0 - o.getD (k - 2) 0) ∧ Hid (dloop b v (u - k) p o = R) ∧ Below w.heap.size w wr) (fun _ _ _ _ i _ => u - (intOf i).toNat)
      case atStart => exact ⟨0, at0, [], 0, rfl, rfl, rfl, rfl, by omega, by omega, Lib.hid rfl, World.ownsRow_nil _ _ _ _, Lib.hid rfl, Lib.hid (fun _ h => by omega), HR0, Below.refl _ _⟩
      case round =>
        obtain ⟨k, p, o, s, rfl, rfl, rfl, rfl, hk, hp, HL, hown, HA, HS, HRk, hbel⟩ := hrel
        have s1 := hbel.size
        by_cases hlt : k < u
        · have hI := i_calls wr (h.below (hbel.mono hB)) (p : Int) hc (by omega)
          by_cases he : (readU b (p : Int)).2.2 = 0
          · have HZ1 : Hid (inB (dbase v o + zagI (readU b (p : Int)).1) = true → dloop b v (u - (k + 1)) (p + (readU b (p : Int)).2.1) (o ++ [dbase v o + zagI (readU b (p : Int)).1]) = R) := Lib.hid fun hi => dloop_ok hlt HRk.out he hi
            have HZ2 : Hid (¬ inB (dbase v o + zagI (readU b (p : Int)).1) = true → ddec b (v : Int) = ([], 2)) := Lib.hid fun hi => ddec_fail HD.out (dloop_bad hlt HRk.out he hi) (by omega)
            have hm := readU_max b (p : Int)
            unfold RetI at hI
            rw [if_pos he] at hI
            have hz := zag_lo hm.1
            have hm2 := hm.2
            have q2 : ((((readU b (p : Int)).2.2 : Nat) : Int) != 0) = false := nef (by omega)
            clear he HRk hm
            generalize zagI (readU b (p : Int)).1 = z at *
            generalize readU b (p : Int) = r at *
            obtain ⟨r1, n, e1⟩ := r
            dsimp only at *
            have HI := Lib.hid hI
            clear hI
            have hLk := all_get HA.out (k - 1)
            have hLk2 := all_get HA.out (k - 2)
            have ho2 : o.length ≤ 2048 := by rw [HL.out]; omega
            have hcase : (v = 0 ∨ k = 0) ∨ ((v = 1 ∧ 1 ≤ k) ∨ (v = 2 ∧ k = 1)) ∨ (v = 2 ∧ 2 ≤ k) := by omega
            -- the three cases: the expression, its facts
            have hfull : ∃ (E s' : Int), E = dbase v o + z ∧ (¬ (z < -4611686018427387904 ∨ 4611686018427387904 < z) → -9000000000000000000 ≤ E ∧ E ≤ 9000000000000000000) ∧ (v = 2 → 2 ≤ k + 1 → s' = E - o.getD (k - 1) 0) ∧ ((z < -4611686018427387904 ∨ 4611686018427387904 < z) → ¬ inB E = true) ∧
                (((v = 0 ∨ k = 0) ∧ E = z ∧ s' = z) ∨ (((v = 1 ∧ 1 ≤ k) ∨ (v = 2 ∧ k = 1)) ∧ E = z + o.getD (k - 1) 0 ∧ s' = z) ∨ ((v = 2 ∧ 2 ≤ k) ∧ E = z + s + o.getD (k - 1) 0 ∧ s' = z + s ∧ -2305843009213693952 ≤ s ∧ s ≤ 2305843009213693952)) := by
              rcases hcase with hc0 | hc1 | hc2
              · refine ⟨z, z, by rw [dbase_0 HL.out hc0]; omega, fun _ => by omega, fun h1 h2 => ?_, fun h => by rw [inB_iff]; omega, .inl ⟨hc0, rfl, rfl⟩⟩
                have hk0 : k = 0 := by omega
                have ho0 : o = [] := List.eq_nil_of_length_eq_zero (by rw [HL.out, hk0])
                rw [ho0]; simp
              · exact ⟨z + o.getD (k - 1) 0, z, by rw [dbase_1 HL.out hc1]; omega, fun _ => by omega, fun _ _ => by omega, fun h => by rw [inB_iff]; omega, .inr (.inl ⟨hc1, rfl, rfl⟩)⟩
              · have hs := HS.out hc2.1 hc2.2
                exact ⟨z + s + o.getD (k - 1) 0, z + s, by rw [dbase_2 HL.out hc2]; omega, fun _ => by omega, fun _ _ => by omega, fun h => by rw [inB_iff]; omega, .inr (.inr ⟨hc2, rfl, rfl, by omega, by omega⟩)⟩
            obtain ⟨E, s', hE, hEb, hs', hEo, hform⟩ := hfull
            rw [← hE] at HZ1 HZ2
            have HSN : Hid (v = 2 → 2 ≤ k + 1 → s' = (o ++ [E]).getD (k + 1 - 1) 0 - (o ++ [E]).getD (k + 1 - 2) 0) := Lib.hid fun h1 h2 => by
              rw [snoc_last HL.out]
              rcases Nat.eq_zero_or_pos k with hk0 | hk0
              · omega
              · rw [snoc_prev HL.out hk0]; exact hs' h1 h2
            have HLN : Hid ((o ++ [E]).getD (k + 1 - 1) 0 = E) := Lib.hid (snoc_last HL.out E)
            have HLL : Hid ((o ++ [E]).length = k + 1) := Lib.hid (by rw [List.length_append, HL.out]; rfl)
            clear hE hs' HS hcase hLk2
            by_cases hz2 : z < -4611686018427387904 ∨ 4611686018427387904 < z
            · have HF := Lib.hid (HZ2.out (hEo hz2))
              have hz3 : z < -4611686018427387904 ∨ (¬ z < -4611686018427387904 ∧ 4611686018427387904 < z) := by omega
              clear hz2 hform hEb hEo HZ1 HZ2 HSN HLN HLL
              generalize o.getD (k - 1) 0 = L at *
              rcases hz3 with hz3 | ⟨hz3, hz4⟩
              all_goals
                go_wp2_with fail
                refine HI.out.mono ?_
                rintro e w' ⟨rfl, rfl⟩
                go_wp2
                go_ret2
                rw [HF.out]
                exact ⟨_, rfl, World.ownsRow_nil _ _ _ _, hbel⟩
            · have hEb := hEb hz2
              have z1 : ¬ z < -4611686018427387904 := by omega
              have z2 : ¬ 4611686018427387904 < z := by omega
              clear hz2 hEo
              have hform2 : (E = z ∧ s' = z ∧ ((((v : Int) == 2) = false ∧ ((v : Int) != 0) = false) ∨ (((v : Int) == 2) = false ∧ ((v : Int) != 0) = true ∧ ¬ 0 < (k : Int)) ∨ (((v : Int) == 2) = true ∧ ((v : Int) != 0) = true ∧ ¬ 0 < (k : Int) ∧ ¬ 1 < (k : Int)))) ∨
                  (E = z + o.getD (k - 1) 0 ∧ s' = z ∧ ((((v : Int) == 2) = false ∧ ((v : Int) != 0) = true ∧ 0 < (k : Int)) ∨ (((v : Int) == 2) = true ∧ ((v : Int) != 0) = true ∧ 0 < (k : Int) ∧ ¬ 1 < (k : Int)))) ∨
                  (E = z + s + o.getD (k - 1) 0 ∧ s' = z + s ∧ ((v : Int) == 2) = true ∧ ((v : Int) != 0) = true ∧ 0 < (k : Int) ∧ 1 < (k : Int) ∧ -2305843009213693952 ≤ s ∧ s ≤ 2305843009213693952) := by
                rcases hform with ⟨hc0, e1, e2⟩ | ⟨hc1, e1, e2⟩ | ⟨hc2, e1, e2, b1, b2⟩
                · refine .inl ⟨e1, e2, ?_⟩
                  by_cases h0 : v = 0
                  · exact .inl ⟨eqf (by omega), nef (by omega)⟩
                  · by_cases h2 : v = 2
                    · exact .inr (.inr ⟨eqt (by omega), net (by omega), by omega, by omega⟩)
                    · exact .inr (.inl ⟨eqf (by omega), net (by omega), by omega⟩)
                · refine .inr (.inl ⟨e1, e2, ?_⟩)
                  rcases hc1 with h1 | h1
                  · exact .inl ⟨eqf (by omega), net (by omega), by omega⟩
                  · exact .inr ⟨eqt (by omega), net (by omega), by omega, by omega⟩
                · exact .inr (.inr ⟨e1, e2, eqt (by omega), net (by omega), by omega, by omega, b1, b2⟩)
              clear hform
              by_cases hi : inB E = true
              · obtain ⟨t1, t2⟩ := next_in hi
                have HZ := Lib.hid (HZ1.out hi)
                have HA2 := Lib.hid (snoc_all HA.out hi)
                clear hi HZ1 HZ2
                generalize o.getD (k - 1) 0 = L at *
                rcases hform2 with ⟨rfl, rfl, h0 | ⟨h0, h1, h2⟩ | ⟨h0, h1, h2, h3⟩⟩ | ⟨rfl, rfl, ⟨h0, h1, h2⟩ | ⟨h0, h1, h2, h3⟩⟩ | ⟨rfl, rfl, h0, h1, h2, h3, h4, h5⟩
                all_goals
                  go_wp2_with fail
                  refine HI.out.mono ?_
                  rintro e w' ⟨rfl, rfl⟩
                  go_wp2_with (at_builtin; go_must (refine wpList_push _ rfl (.tmp 85) (.tmp 87) _ rfl w.heap.size 2 _ 8 Try.underlying22 Try.infoI64 rfl _ _ _ _ _ rfl rfl hown rfl (by unfold maxLen; omega) (by omega) s1 ?_))
                  intro v' w1 hown' hbel' _ _
                  have hown2 := own_snocI hown' rfl rfl
                  clear hown' hown
                  go_wp2
                  go_roundw
                  case rel => exact ⟨k + 1, p + n, _, _, by go_num, by go_num, by rw [HLN.out], rfl, by omega, by omega, HLL, hown2, HA2, HSN, HZ, hbel.trans hbel'⟩
                  case measure => simp [intOf]; omega
              · have ht := next_out hi
                have HF := Lib.hid (HZ2.out hi)
                clear hi HZ1 HZ2
                generalize o.getD (k - 1) 0 = L at *
                rcases hform2 with ⟨rfl, rfl, h0 | ⟨h0, h1, h2⟩ | ⟨h0, h1, h2, h3⟩⟩ | ⟨rfl, rfl, ⟨h0, h1, h2⟩ | ⟨h0, h1, h2, h3⟩⟩ | ⟨rfl, rfl, h0, h1, h2, h3, h4, h5⟩
                all_goals
                  rcases ht with t1 | ⟨t1, t2⟩
                  all_goals
                    go_wp2_with fail
                    refine HI.out.mono ?_
                    rintro e w' ⟨rfl, rfl⟩
                    go_wp2
                    go_ret2
                    rw [HF.out]
                    exact ⟨_, rfl, World.ownsRow_nil _ _ _ _, hbel⟩
          · have HF := Lib.hid (ddec_fail HD.out (dloop_err hlt HRk.out he) he)
            unfold RetI at hI
            rw [if_neg he] at hI
            have q2 : ((((readU b (p : Int)).2.2 : Nat) : Int) != 0) = true := net (by omega)
            clear he HRk
            generalize o.getD (k - 1) 0 = L at *
            generalize readU b (p : Int) = r at *
            obtain ⟨r1, n, e1⟩ := r
            dsimp only at *
            have HI := Lib.hid hI
            clear hI
            go_wp2_with fail
            refine HI.out.mono ?_
            rintro e w' ⟨rfl, rfl⟩
            go_wp2
            go_ret2
            rw [HF.out]
            exact ⟨_, rfl, World.ownsRow_nil _ _ _ _, hbel⟩
        · generalize o.getD (k - 1) 0 = L at *
          have hRe := dloop_end (by omega) HRk.out
          by_cases hmore : p < b.length
          · have HF := Lib.hid (ddec_more HD.out hRe hmore)
            clear hRe
            go_wp2
            go_ret2
            rw [HF.out]
            exact ⟨_, rfl, World.ownsRow_nil _ _ _ _, hbel⟩
          · have HF := Lib.hid (ddec_done HD.out hRe hmore)
            clear hRe
            go_wp2
            go_ret2
            rw [HF.out]
            exact ⟨_, rfl, hown, hbel⟩
  · have H := Lib.hid (ddec_err hv he)
    have q : ((((readU b 0).2.2 : Nat) : Int) != 0) = true := net (by omega)
    have HU := Lib.hid hU
    clear hU he
    generalize readU b 0 = r at *
    obtain ⟨u, at0, e0⟩ := r
    dsimp only at q H
    go_enter Try.func20, Try.ntmps20
    go_wp2_with fail
    refine HU.out.mono ?_
    rintro e w' ⟨rfl, rfl⟩
    dsimp only at ⊢
    go_wp2
    go_ret2
    rw [H.out]
    exact ⟨_, rfl, World.ownsRow_nil _ _ _ _, Below.refl _ _⟩
end Go.Proofs.Ytpenjandhgcgeaa
