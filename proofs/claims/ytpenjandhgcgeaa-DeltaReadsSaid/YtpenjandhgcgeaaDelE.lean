/- Contracts of the reference of delta (chapter 4): Decode. -/
import Derived.Test.YtpenjandhgcgeaaDelD
namespace Go.Proofs.Ytpenjandhgcgeaa
open Go.RowKit

theorem own_someZ {w : World} {base n c : Nat} {e : TypeId} {A : Option Addr} {o : List Int} (h : w.ownsRow base e 1 (.slice A n c) n (o.map (Value.int .i64))) (hn : 0 < n) :
    ∃ g, A = some ⟨g, 0, none⟩ ∧ base ≤ g ∧ ∀ j, j < n → w.cell? ⟨g, j, none⟩ = some (.int .i64 (o.getD j 0)) := by
  obtain ⟨g, rfl, hg⟩ := own_someI h hn
  refine ⟨g, rfl, hg, fun j hj => ?_⟩
  have hl : o.length = n := by have := h.1; simpa using this
  rw [h.cellAt j (by omega), i64_get (by omega)]

set_option maxRecDepth 100000 in
set_option maxHeartbeats 4000000 in
theorem decodeR_calls (w : World) {B c : Nat} {A : Option Addr} {b : List UInt8} (way : Int) (h : Bytes w B A b.length b) (hB : B ≤ w.heap.size) (hc : b.length ≤ c) (hn : b.length ≤ 140737488355328) :
    Calls Try.prog 21 #[.slice A b.length c, .int .i64 way] w (RetIE w (ddec b way)) := by
  by_cases hw : way < 0 ∨ 2 < way
  · have H := Lib.hid (ddec_arg (b := b) hw)
    have q0 : (way != 0) = true := net (by omega)
    have q1 : (way != 1) = true := net (by omega)
    have q2 : (way != 2) = true := net (by omega)
    clear hw
    go_enter Try.func21, Try.ntmps21
    go_wp2
    go_ret2
    rw [H.out]
    exact ⟨_, rfl, World.ownsRow_nil _ _ _ _, Below.refl _ _⟩
  obtain ⟨v, rfl, hv⟩ := way_nat hw
  have hways : (((v : Int) != 0) = false ∧ ((v : Int) == 2) = false ∧ (v : Int) < 1) ∨ (((v : Int) != 0) = true ∧ ((v : Int) != 1) = false ∧ ((v : Int) == 2) = false ∧ (1 : Int) ≤ (v : Int) ∧ (v : Int) < 2) ∨ (((v : Int) != 0) = true ∧ ((v : Int) != 1) = true ∧ ((v : Int) != 2) = false ∧ ((v : Int) == 2) = true ∧ (1 : Int) ≤ (v : Int) ∧ (2 : Int) ≤ (v : Int)) := by
    have : v = 0 ∨ v = 1 ∨ v = 2 := by omega
    rcases this with h | h | h
    · exact .inl ⟨nef (by omega), eqf (by omega), by omega⟩
    · exact .inr (.inl ⟨net (by omega), nef (by omega), eqf (by omega), by omega, by omega⟩)
    · exact .inr (.inr ⟨net (by omega), net (by omega), nef (by omega), eqt (by omega), by omega, by omega⟩)
  clear hw
  have hU := v_calls w (c := c) h 0 (by omega)
  by_cases he : (readU b 0).2.2 = 0
  · by_cases hl : 2048 < (readU b 0).1
    · have H := Lib.hid (ddec_long hv he hl)
      have q : ((((readU b 0).2.2 : Nat) : Int) != 0) = false := nef (by omega)
      have HU := Lib.hid hU
      clear hU he
      generalize readU b 0 = r at *
      obtain ⟨u, at0, e0⟩ := r
      dsimp only at q hl
      rcases hways with ⟨y0, y1, y2⟩ | ⟨y0, y1, y2, y3, y4⟩ | ⟨y0, y1, y2, y3, y4, y5⟩
      all_goals
        go_enter Try.func21, Try.ntmps21
        go_wp2_with fail
        refine HU.out.mono ?_
        rintro e w' ⟨rfl, rfl⟩
        dsimp only at ⊢
        go_wp2
        go_ret2
        rw [H.out]
        exact ⟨_, rfl, World.ownsRow_nil _ _ _ _, Below.refl _ _⟩
    · have q : ((((readU b 0).2.2 : Nat) : Int) != 0) = false := nef (by omega)
      have H := Lib.hid (fun R => @ddec_loop b v hv he hl R)
      have HU := Lib.hid hU
      have hat := (readU_max b 0).2
      clear hU he
      generalize readU b 0 = r at *
      obtain ⟨u, at0, e0⟩ := r
      dsimp only at q hl hat H
      obtain ⟨R, hR⟩ : ∃ R, dloop b v u at0 [] = R := ⟨_, rfl⟩
      have HD := Lib.hid (H.out R hR)
      have HR0 : Hid (dloop b v (u - 0) at0 [] = R) := Lib.hid hR
      clear hR H
      rcases hways with ⟨y0, y1, y2⟩ | ⟨y0, y1, y2, y3, y4⟩ | ⟨y0, y1, y2, y3, y4, y5⟩
      all_goals
        go_enter Try.func21, Try.ntmps21
        go_wp2_with fail
        refine HU.out.mono ?_
        rintro e w' ⟨rfl, rfl⟩
        dsimp only at ⊢
        go_wp2
        go_loopw [7, 9, 10] (fun at_ out i wr => ∃ (k p : Nat) (o : List Int), i = .int .i64 (k : Int) ∧ at_ = .int .i64 (p : Int) ∧ k ≤ u ∧ p ≤ 10 + 10 * k ∧ Hid (o.length = k) ∧ wr.ownsRow w.heap.size 2 1 out o.length (o.map (Value.int .i64)) ∧ Hid (o.all inB = true) ∧ Hid (dloop b v (u - k) p o = R) ∧ Below w.heap.size w wr) (fun _ _ i _ => u - (intOf i).toNat)
        case atStart => exact ⟨0, at0, [], rfl, rfl, by omega, by omega, Lib.hid rfl, by simpa using World.ownsRow_made w #[] 0 (Nat.le_refl _) (Nat.zero_le _) rfl, Lib.hid rfl, HR0, (Below.refl _ _).alloc (Nat.le_refl _) _⟩
        case round =>
          obtain ⟨k, p, o, rfl, rfl, hk, hp, HL, hown, HA, HRk, hbel⟩ := hrel
          have s1 := hbel.size
          by_cases hlt : k < u
          · have hI := v_calls wr (c := c) (h.below (hbel.mono hB)) (p : Int) (by omega)
            by_cases he : (readU b (p : Int)).2.2 = 0
            · have HZ1 : Hid (inB (dbase v o + zagI (readU b (p : Int)).1) = true → dloop b v (u - (k + 1)) (p + (readU b (p : Int)).2.1) (o ++ [dbase v o + zagI (readU b (p : Int)).1]) = R) := Lib.hid fun hi => dloop_ok hlt HRk.out he hi
              have HZ2 : Hid (¬ inB (dbase v o + zagI (readU b (p : Int)).1) = true → ddec b (v : Int) = ([], 2)) := Lib.hid fun hi => ddec_fail HD.out (dloop_bad hlt HRk.out he hi) (by omega)
              have hm := readU_max b (p : Int)
              have hz := zag_lo hm.1
              have hm2 := hm.2
              have hm1 := hm.1
              have q2 : ((((readU b (p : Int)).2.2 : Nat) : Int) != 0) = false := nef (by omega)
              have hZg := zagR_calls (readU b (p : Int)).1 wr hm1
              clear he HRk hm
              generalize zagI (readU b (p : Int)).1 = z at *
              generalize readU b (p : Int) = r at *
              obtain ⟨r1, n, e1⟩ := r
              dsimp only at *
              have HI := Lib.hid hI
              have HZg := Lib.hid hZg
              clear hI hZg hm1
              have hLk := all_get HA.out (k - 1)
              have hLk2 := all_get HA.out (k - 2)
              have ho2 : o.length ≤ 2048 := by rw [HL.out]; omega
              have HLL : Hid (∀ E, (o ++ [E]).length = k + 1) := Lib.hid fun E => by rw [List.length_append, HL.out]; rfl
              have hsplit : ((v : Int) < 1 ∨ (k : Int) < 1) ∨ ((1 : Int) ≤ (v : Int) ∧ 1 ≤ k ∧ (v = 1 ∨ (k : Int) < 2)) ∨ (v = 2 ∧ 2 ≤ k) := by omega
              rcases hsplit with hk0 | ⟨hv1, hk1, hk2⟩ | ⟨hv2, hk2⟩
              · have hb0 : dbase v o = 0 := dbase_0 HL.out (by omega)
                rw [hb0] at HZ1 HZ2
                have hk3 : (v : Int) < 1 ∨ ((1 : Int) ≤ (v : Int) ∧ (k : Int) < 1 ∧ (k : Int) < 2) := by omega
                clear hb0 hk0 hLk hLk2
                have ez : 0 + z = z := by omega
                rw [ez] at HZ1 HZ2
                clear ez
                by_cases hi : inB z = true
                · obtain ⟨t1, t2⟩ := next_in hi
                  have HZ := Lib.hid (HZ1.out hi)
                  have HA2 := Lib.hid (snoc_all HA.out hi)
                  have HLE := Lib.hid (HLL.out z)
                  clear hi HZ1 HZ2 HLL
                  rcases hk3 with hk3 | ⟨hk3, hk4, hk5⟩
                  all_goals (first | (exfalso; omega; done) | skip)
                  all_goals
                    go_wp2_with fail
                    refine HI.out.mono ?_
                    rintro e w' ⟨rfl, rfl⟩
                    dsimp only at ⊢
                    go_wp2_with fail
                    refine HZg.out.mono ?_
                    rintro e w' ⟨rfl, rfl⟩
                    go_wp2_with (at_builtin; go_must (refine wpList_push _ rfl (.tmp 98) (.tmp 102) _ rfl w.heap.size 2 _ 8 Try.underlying22 Try.infoI64 rfl _ _ _ _ _ rfl rfl hown rfl (by unfold maxLen; omega) (by omega) s1 ?_))
                    intro v' w1 hown' hbel' _ _
                    have hown2 := own_snocI (d := z) hown' (by omega) rfl
                    clear hown' hown
                    go_wp2
                    go_roundw
                    case rel => exact ⟨k + 1, p + n, _, by go_num, by go_num, by omega, by omega, HLE, hown2, HA2, HZ, hbel.trans hbel'⟩
                    case measure => simp [intOf]; omega
                · have ht := next_out hi
                  have HF := Lib.hid (HZ2.out hi)
                  clear hi HZ1 HZ2 HLL
                  have ht2 : 1152921504606846976 < z ∨ (¬ 1152921504606846976 < z ∧ z < -1152921504606846976) := by omega
                  clear ht
                  rcases hk3 with hk3 | ⟨hk3, hk4, hk5⟩
                  all_goals (first | (exfalso; omega; done) | skip)
                  all_goals
                    rcases ht2 with t1 | ⟨t1, t2⟩
                    all_goals
                      go_wp2_with fail
                      refine HI.out.mono ?_
                      rintro e w' ⟨rfl, rfl⟩
                      dsimp only at ⊢
                      go_wp2_with fail
                      refine HZg.out.mono ?_
                      rintro e w' ⟨rfl, rfl⟩
                      go_wp2
                      go_ret2
                      rw [HF.out]
                      exact ⟨_, rfl, World.ownsRow_nil _ _ _ _, hbel⟩
              · have hb0 : dbase v o = o.getD (k - 1) 0 := dbase_1 HL.out (by omega)
                rw [hb0] at HZ1 HZ2
                obtain ⟨A2, c2, rfl, hc2, hm3, -⟩ := own_slice hown
                have ho1 : 1 ≤ o.length := by rw [HL.out]; exact hk1
                obtain ⟨g, rfl, hg, hcell⟩ := own_someZ hown (by omega)
                have c0 := hcell (k - 1) (by rw [HL.out]; omega)
                have i3 : (k : Int) - 1 < (o.length : Int) := by rw [HL.out]; omega
                have i1 : (1 : Int) ≤ (k : Int) := by omega
                have i2 : (0 : Int) ≤ (k : Int) - 1 := by omega
                have i4 : ((k : Int) - 1).toNat = k - 1 := by omega
                have hk3 : (((v : Int) == 2) = false ∧ (v : Int) < 2 ∧ (2 : Int) ≤ (k : Int)) ∨ (k : Int) < 2 := by
                  rcases hk2 with h | h
                  · rcases Nat.lt_or_ge k 2 with h2 | h2
                    · exact .inr (by omega)
                    · exact .inl ⟨eqf (by omega), by omega, by omega⟩
                  · exact .inr h
                clear hb0 hk2 hLk2 hcell hk1
                generalize o.getD (k - 1) 0 = L at *
                by_cases hi : inB (L + z) = true
                · have t1 := inB_iff.1 hi
                  have t2 : ¬ z < -1152921504606846976 - L := by omega
                  have t3 : ¬ 1152921504606846976 - L < z := by omega
                  have HZ := Lib.hid (HZ1.out hi)
                  have HA2 := Lib.hid (snoc_all HA.out hi)
                  have HLE := Lib.hid (HLL.out (L + z))
                  clear hi HZ1 HZ2 HLL
                  rcases hk3 with ⟨hk3, hk5, hk4⟩ | hk3
                  all_goals (first | (exfalso; omega; done) | skip)
                  all_goals
                    go_wp2_with fail
                    refine HI.out.mono ?_
                    rintro e w' ⟨rfl, rfl⟩
                    dsimp only at ⊢
                    go_wp2_with fail
                    refine HZg.out.mono ?_
                    rintro e w' ⟨rfl, rfl⟩
                    go_wp2_with (at_builtin; go_must (refine wpList_push _ rfl (.tmp 98) (.tmp 102) _ rfl w.heap.size 2 _ 8 Try.underlying22 Try.infoI64 rfl _ _ _ _ _ rfl rfl hown rfl (by unfold maxLen; omega) (by omega) s1 ?_))
                    intro v' w1 hown' hbel' _ _
                    have hown2 := own_snocI (d := L + z) hown' (by omega) rfl
                    clear hown' hown
                    go_wp2
                    go_roundw
                    case rel => exact ⟨k + 1, p + n, _, by go_num, by go_num, by omega, by omega, HLE, hown2, HA2, HZ, hbel.trans hbel'⟩
                    case measure => simp [intOf]; omega
                · have ht := next_out hi
                  have HF := Lib.hid (HZ2.out hi)
                  clear hi HZ1 HZ2 HLL
                  have ht2 : 1152921504606846976 - L < z ∨ (¬ 1152921504606846976 - L < z ∧ z < -1152921504606846976 - L) := by omega
                  clear ht
                  rcases hk3 with ⟨hk3, hk5, hk4⟩ | hk3
                  all_goals (first | (exfalso; omega; done) | skip)
                  all_goals
                    rcases ht2 with t1 | ⟨t1, t2⟩
                    all_goals
                      go_wp2_with fail
                      refine HI.out.mono ?_
                      rintro e w' ⟨rfl, rfl⟩
                      dsimp only at ⊢
                      go_wp2_with fail
                      refine HZg.out.mono ?_
                      rintro e w' ⟨rfl, rfl⟩
                      go_wp2
                      go_ret2
                      rw [HF.out]
                      exact ⟨_, rfl, World.ownsRow_nil _ _ _ _, hbel⟩
              · have hb0 : dbase v o = 2 * o.getD (k - 1) 0 - o.getD (k - 2) 0 := dbase_2 HL.out ⟨hv2, hk2⟩
                rw [hb0] at HZ1 HZ2
                obtain ⟨A2, c2, rfl, hc2, hm3, -⟩ := own_slice hown
                have ho1 : 2 ≤ o.length := by rw [HL.out]; exact hk2
                obtain ⟨g, rfl, hg, hcell⟩ := own_someZ hown (by omega)
                have c0 := hcell (k - 1) (by rw [HL.out]; omega)
                have c1 := hcell (k - 2) (by rw [HL.out]; omega)
                have i3 : (k : Int) - 1 < (o.length : Int) := by rw [HL.out]; omega
                have i1 : (1 : Int) ≤ (k : Int) := by omega
                have i2 : (0 : Int) ≤ (k : Int) - 1 := by omega
                have i4 : ((k : Int) - 1).toNat = k - 1 := by omega
                have i5 : (2 : Int) ≤ (k : Int) := by omega
                have i6 : (0 : Int) ≤ (k : Int) - 2 := by omega
                have i7 : (k : Int) - 2 < (o.length : Int) := by rw [HL.out]; omega
                have i8 : ((k : Int) - 2).toNat = k - 2 := by omega
                have hvf : ((v : Int) == 2) = true ∧ (1 : Int) ≤ (v : Int) ∧ (2 : Int) ≤ (v : Int) := ⟨eqt (by omega), by omega, by omega⟩
                obtain ⟨hv3, hv4, hv5⟩ := hvf
                clear hb0 hcell hk2 hv2
                generalize o.getD (k - 1) 0 = L at *
                generalize o.getD (k - 2) 0 = M at *
                by_cases hi : inB (2 * L - M + z) = true
                · have t1 := inB_iff.1 hi
                  have t2 : ¬ z < -1152921504606846976 - (2 * L - M) := by omega
                  have t3 : ¬ 1152921504606846976 - (2 * L - M) < z := by omega
                  have HZ := Lib.hid (HZ1.out hi)
                  have HA2 := Lib.hid (snoc_all HA.out hi)
                  have HLE := Lib.hid (HLL.out (2 * L - M + z))
                  clear hi HZ1 HZ2 HLL
                  first
                  | (exfalso; omega; done)
                  | (go_wp2_with fail
                     refine HI.out.mono ?_
                     rintro e w' ⟨rfl, rfl⟩
                     dsimp only at ⊢
                     go_wp2_with fail
                     refine HZg.out.mono ?_
                     rintro e w' ⟨rfl, rfl⟩
                     go_wp2_with fail
                     have e4 : IntKind.i64.wrap ((k : Int) - 1) = (k : Int) - 1 := IntWalk.i64_in _ (by omega)
                     have e5 : IntKind.i64.wrap ((k : Int) - 2) = (k : Int) - 2 := IntWalk.i64_in _ (by omega)
                     have e6 : IntKind.i64.wrap (2 * L) = 2 * L := IntWalk.i64_in _ (by omega)
                     have e7 : IntKind.i64.wrap (2 * L - M) = 2 * L - M := IntWalk.i64_in _ (by omega)
                     go_quiet (fail)
                     clear e4 e5 e6 e7
                     have hown := own_drewN hown nq
                     have hbel := below_drewN_ hbel nq
                     go_wp2_with (at_builtin; go_must (refine wpList_push _ rfl (.tmp 98) (.tmp 102) _ rfl w.heap.size 2 _ 8 Try.underlying22 Try.infoI64 rfl _ _ _ _ _ rfl rfl hown rfl (by unfold maxLen; omega) (by omega) s1 ?_))
                     intro v' w1 hown' hbel' _ _
                     have hown2 := own_snocI (d := 2 * L - M + z) hown' (by omega) rfl
                     clear hown' hown
                     go_wp2
                     go_roundw
                     case rel => exact ⟨k + 1, p + n, _, by go_num, by go_num, by omega, by omega, HLE, hown2, HA2, HZ, hbel.trans hbel'⟩
                     case measure => simp [intOf]; omega)
                · have ht := next_out hi
                  have HF := Lib.hid (HZ2.out hi)
                  clear hi HZ1 HZ2 HLL
                  have ht2 : 1152921504606846976 - (2 * L - M) < z ∨ (¬ 1152921504606846976 - (2 * L - M) < z ∧ z < -1152921504606846976 - (2 * L - M)) := by omega
                  clear ht
                  rcases ht2 with t1 | ⟨t1, t2⟩
                  all_goals (first | (exfalso; omega; done) | skip)
                  all_goals
                    go_wp2_with fail
                    refine HI.out.mono ?_
                    rintro e w' ⟨rfl, rfl⟩
                    dsimp only at ⊢
                    go_wp2_with fail
                    refine HZg.out.mono ?_
                    rintro e w' ⟨rfl, rfl⟩
                    go_wp2_with fail
                    have e4 : IntKind.i64.wrap ((k : Int) - 1) = (k : Int) - 1 := IntWalk.i64_in _ (by omega)
                    have e5 : IntKind.i64.wrap ((k : Int) - 2) = (k : Int) - 2 := IntWalk.i64_in _ (by omega)
                    have e6 : IntKind.i64.wrap (2 * L) = 2 * L := IntWalk.i64_in _ (by omega)
                    have e7 : IntKind.i64.wrap (2 * L - M) = 2 * L - M := IntWalk.i64_in _ (by omega)
                    go_quiet (fail)
                    clear e4 e5 e6 e7
                    have hbel := below_drewN_ hbel nq
                    go_wp2
                    go_ret2
                    rw [HF.out]
                    exact ⟨_, rfl, World.ownsRow_nil _ _ _ _, hbel⟩
            · have HF := Lib.hid (ddec_fail HD.out (dloop_err hlt HRk.out he) he)
              have q2 : ((((readU b (p : Int)).2.2 : Nat) : Int) != 0) = true := net (by omega)
              clear he HRk
              generalize readU b (p : Int) = r at *
              obtain ⟨r1, n, e1⟩ := r
              dsimp only at *
              have HI := Lib.hid hI
              clear hI
              go_wp2_with fail
              refine HI.out.mono ?_
              rintro e w' ⟨rfl, rfl⟩
              dsimp only at ⊢
              go_wp2
              go_ret2
              rw [HF.out]
              exact ⟨_, rfl, World.ownsRow_nil _ _ _ _, hbel⟩
          · have hRe := dloop_end (by omega) HRk.out
            by_cases hmore : p < b.length
            · have HF := Lib.hid (ddec_more HD.out hRe hmore)
              clear hRe
              go_wp2
              go_ret2
              rw [HF.out]
              exact ⟨_, rfl, World.ownsRow_nil _ _ _ _, hbel⟩
            · have HF := Lib.hid (ddec_done HD.out hRe hmore)
              clear hRe
              go_wp2
              go_ret2
              rw [HF.out]
              exact ⟨_, rfl, hown, hbel⟩
  · have H := Lib.hid (ddec_err hv he)
    have q : ((((readU b 0).2.2 : Nat) : Int) != 0) = true := net (by omega)
    have HU := Lib.hid hU
    clear hU he
    generalize readU b 0 = r at *
    obtain ⟨u, at0, e0⟩ := r
    dsimp only at q H
    rcases hways with ⟨y0, y1, y2⟩ | ⟨y0, y1, y2, y3, y4⟩ | ⟨y0, y1, y2, y3, y4, y5⟩
    all_goals
      go_enter Try.func21, Try.ntmps21
      go_wp2_with fail
      refine HU.out.mono ?_
      rintro e w' ⟨rfl, rfl⟩
      dsimp only at ⊢
      go_wp2
      go_ret2
      rw [H.out]
      exact ⟨_, rfl, World.ownsRow_nil _ _ _ _, Below.refl _ _⟩
end Go.Proofs.Ytpenjandhgcgeaa
