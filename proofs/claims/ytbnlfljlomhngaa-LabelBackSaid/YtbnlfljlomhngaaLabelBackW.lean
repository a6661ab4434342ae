/- The walk of LabelBack. -/
import Derived.Test.YtbnlfljlomhngaaParE
import Derived.Test.YtbnlfljlomhngaaLabArg
import Derived.Test.YtbnlfljlomhngaaOpen
namespace Go.Proofs.Ytbnlfljlomhngaa.lawLabelBack
open Go.RowKit

set_option maxRecDepth 100000 in
set_option maxHeartbeats 800000 in
theorem early (w : World) {B c c1 : Nat} {A A1 : Option Addr} {l m : List Lab} (h : Labs w B A l) (hB : B ≤ w.heap.size) (hf : Fit l) (hn : l.length ≤ 4398046511104) {B1 : Nat} (h1 : Labs w B1 A1 m) (hB1 : B1 ≤ w.heap.size) (hf1 : Fit m) (hn1 : m.length ≤ 4398046511104)
    (t : ByteArray) (hc : fewB l = false ∨ (fewB l = true ∧ fewB m = false) ∨ (fewB l = true ∧ fewB m = true ∧ 600 < t.size)) :
    Calls Try.prog 9 #[.slice A l.length c, .slice A1 m.length c1, .string t] w fun e w' => e = .returned (.bool true) ∧ Below w.heap.size w w' := by
  have Hf := Lib.hid hf
  have Hf1 := Lib.hid hf1
  clear hf hf1
  rcases hc with hq | ⟨hq, hr⟩ | ⟨hq, hr, ht⟩
  all_goals
    have HQ := Lib.hid hq
    clear hq
    try (have HR := Lib.hid hr; clear hr)
    try (have d1 : decide ((600 : Int) < (t.size : Int)) = true := dct (by omega))
    go_enter Try.func9, Try.ntmps9
    go_wp2_with fail
    refine (lives_calls w).mono ?_
    rintro e w1 ⟨rfl, hb1⟩
    have s1 := hb1.size
    have g1 := h.below (hb1.mono hB)
    have k1 := h1.below (hb1.mono hB1)
    go_wp2_with fail
    refine (few_calls w1 g1 (by omega) Hf.out (by omega)).mono ?_
    rw [HQ.out]
    rintro e w2 ⟨rfl, hb2⟩
    have hb02 := hb1.trans (hb2.mono s1)
    have s2 := hb02.size
    have k2 := k1.below (hb2.mono (by omega))
  · go_wp2_with fail
    refine (lives_calls w2).mono ?_
    rintro e w3 ⟨rfl, hb3⟩
    go_wp2
    go_ret
    exact ⟨rfl, hb02.trans (hb3.mono s2)⟩
  · go_wp2_with fail
    refine (few_calls w2 k2 (by omega) Hf1.out (by omega)).mono ?_
    rw [HR.out]
    rintro e w3 ⟨rfl, hb3⟩
    have hb03 := hb02.trans (hb3.mono s2)
    have s3 := hb03.size
    go_wp2_with fail
    refine (lives_calls w3).mono ?_
    rintro e w4 ⟨rfl, hb4⟩
    go_wp2
    go_ret
    exact ⟨rfl, hb03.trans (hb4.mono s3)⟩
  · go_wp2_with fail
    refine (few_calls w2 k2 (by omega) Hf1.out (by omega)).mono ?_
    rw [HR.out]
    rintro e w3 ⟨rfl, hb3⟩
    have hb03 := hb02.trans (hb3.mono s2)
    have s3 := hb03.size
    go_wp2_with fail
    refine (lives_calls w3).mono ?_
    rintro e w4 ⟨rfl, hb4⟩
    go_wp2
    go_ret
    exact ⟨rfl, hb03.trans (hb4.mono s3)⟩

theorem right_fit {l : List Lab} (h : rightB l = true) : Fit l := fun x hx => by
  obtain ⟨i, hi, rfl⟩ := List.getElem_of_mem hx
  have := right_at h hi
  rw [labAt_eq hi]
  omega
theorem text_small {l : List Lab} (h : rightB l = true) : (⟨(textB l).toArray⟩ : ByteArray).size ≤ 600 := by
  rw [mk_size]
  have h1 := textK_len h l.length (Nat.le_refl _)
  have h2 : l.length ≤ 4 := (of_decide_eq_true h : rightP l).1
  unfold textB
  simp
  omega
theorem text_eqd {l m : List Lab} (hl : rightB l = true) (hm : rightB m = true) : ((⟨(textB l).toArray⟩ : ByteArray).toList == (⟨(textB m).toArray⟩ : ByteArray).toList) = sameB l m := by
  rw [bytes_eqd]
  unfold sameB
  by_cases h : l = m
  · rw [dct h]
    exact dct (by rw [h])
  · rw [dcf h]
    exact dcf fun e => h (textB_inj hl hm (by
      have := congrArg (fun z => z.data.toList) e
      simpa using this))

theorem parse_back {l : List Lab} (hr : rightB l = true) (w : World) (hm : ∃ m, w.cell? ⟨0, 0, none⟩ = some (.int .i64 m)) :
    Calls Try.prog 25 #[.string ⟨(textB l).toArray⟩] w fun e w' => ∃ A c, e = .returned (.tuple #[.slice A l.length c, .int .i64 0]) ∧ Labs w' w'.heap.size A l ∧ Below w.heap.size w w' := by
  refine (parse_calls ⟨(textB l).toArray⟩ w (text_small hr) hm).mono ?_
  rintro e w' (⟨l', A, c, rfl, hp, hl, hb⟩ | ⟨_, hno, _⟩)
  · obtain rfl := textB_inj hr hp.1 (by have := hp.2; simpa using this.symm)
    exact ⟨A, c, rfl, hl, hb⟩
  · exact absurd ⟨hr, rfl⟩ (hno l)

set_option maxRecDepth 100000 in
set_option maxHeartbeats 3200000 in
theorem body (w : World) {B c c1 : Nat} {A A1 : Option Addr} {l m : List Lab} (h : Labs w B A l) (hB : B ≤ w.heap.size) (hf : Fit l) (hn : l.length ≤ 4398046511104) {B1 : Nat} (h1 : Labs w B1 A1 m) (hB1 : B1 ≤ w.heap.size) (hf1 : Fit m) (hn1 : m.length ≤ 4398046511104)
    (t : ByteArray) (hq : fewB l = true) (hq1 : fewB m = true) (ht : t.size ≤ 600) (hm : ∃ m, w.cell? ⟨0, 0, none⟩ = some (.int .i64 m)) :
    Calls Try.prog 9 #[.slice A l.length c, .slice A1 m.length c1, .string t] w fun e w' => e = .returned (.bool true) ∧ Below w.heap.size w w' := by
  have Hf := Lib.hid hf
  have Hf1 := Lib.hid hf1
  have HQ := Lib.hid hq
  have HQ1 := Lib.hid hq1
  clear hf hf1 hq hq1
  obtain ⟨k, hm⟩ := hm
  have HM := Lib.hid hm
  clear hm
  have d1 : decide ((600 : Int) < (t.size : Int)) = false := dcf (by omega)
  go_enter Try.func9, Try.ntmps9
  go_wp2_with fail
  refine (lives_calls w).mono ?_
  rintro e w1 ⟨rfl, hb1⟩
  have s1 := hb1.size
  have g1 := h.below (hb1.mono hB)
  have k1 := h1.below (hb1.mono hB1)
  go_wp2_with fail
  refine (few_calls w1 g1 (by omega) Hf.out (by omega)).mono ?_
  rw [HQ.out]
  rintro e w2 ⟨rfl, hb2⟩
  have hb02 := hb1.trans (hb2.mono s1)
  have s2 := hb02.size
  have g2 := g1.below (hb2.mono (by omega))
  have k2 := k1.below (hb2.mono (by omega))
  go_wp2_with fail
  refine (few_calls w2 k2 (by omega) Hf1.out (by omega)).mono ?_
  rw [HQ1.out]
  rintro e w3 ⟨rfl, hb3⟩
  have hb03 := hb02.trans (hb3.mono s2)
  have s3 := hb03.size
  have g3 := g2.below (hb3.mono (by omega))
  have k3 := k2.below (hb3.mono (by omega))
  clear g1 g2 k1 k2 hb1 hb2 hb3 hb02 s1 s2 h h1
  have hend : ∀ W, Below w.heap.size w W → Hid (∃ z, W.cell? ⟨0, 0, none⟩ = some (.int .i64 z)) := fun W hW => Lib.hid ⟨k, cell0_below HM.out hW⟩
  cases hr : rightB l
  · have HT := Lib.hid (text_no w3 (c := c) g3 (by omega) Hf.out (by omega) hr)
    clear hr
    go_wp2_with fail
    refine HT.out.mono ?_
    rintro e w4 ⟨rfl, hb4⟩
    have hb04 := hb03.trans (hb4.mono s3)
    have s4 := hb04.size
    have g4 := g3.below (hb4.mono (by omega))
    have k4 := k3.below (hb4.mono (by omega))
    clear hb4
    cases hrm : rightB m
    · have HTM := Lib.hid (text_no w4 (c := c1) k4 (by omega) Hf1.out (by omega) hrm)
      clear hrm
      go_wp2_with fail
      refine HTM.out.mono ?_
      rintro e w5 ⟨rfl, hb5⟩
      have hb05 := hb04.trans (hb5.mono s4)
      have s5 := hb05.size
      have g5 := g4.below (hb5.mono (by omega))
      have k5 := k4.below (hb5.mono (by omega))
      clear hb5
      go_wp2_with fail
      refine (parse_calls t _ ht (hend _ hb05).out).mono ?_
      intro e w9 hr9
      rcases hr9 with ⟨x, Ax, cx, rfl, hp, hx, hb9⟩ | ⟨rfl, hno, hb9⟩
      · have hxl : x.length ≤ 4 := (of_decide_eq_true hp.1 : rightP x).1
        have HX := Lib.hid (text_yes w9 (c := cx) hx (Nat.le_refl _) (right_fit hp.1) (by omega) hp.1)
        have hqx : ((⟨(textB x).toArray⟩ : ByteArray).toList == t.toList) = true := by
          rw [bytes_eqd]
          exact dct (bytes_ext (by have := hp.2; simpa using this))
        generalize (⟨(textB x).toArray⟩ : ByteArray) = tx at *
        have hb0 := hb05.trans (hb9.mono hb05.size)
        clear hp
        go_wp2_with fail
        refine HX.out.mono ?_
        rintro e w10 ⟨rfl, hb10⟩
        go_wp2
        go_ret
        exact ⟨rfl, hb0.trans (hb10.mono hb0.size)⟩
      · have hb0 := hb05.trans (hb9.mono hb05.size)
        clear hno
        go_wp2
        go_ret
        exact ⟨rfl, hb0⟩
    · have HTM := Lib.hid (text_yes w4 (c := c1) k4 (by omega) Hf1.out (by omega) hrm)
      generalize (⟨(textB m).toArray⟩ : ByteArray) = bu at *
      clear hrm
      go_wp2_with fail
      refine HTM.out.mono ?_
      rintro e w5 ⟨rfl, hb5⟩
      have hb05 := hb04.trans (hb5.mono s4)
      have s5 := hb05.size
      have g5 := g4.below (hb5.mono (by omega))
      have k5 := k4.below (hb5.mono (by omega))
      clear hb5
      go_wp2_with fail
      refine (parse_calls t _ ht (hend _ hb05).out).mono ?_
      intro e w9 hr9
      rcases hr9 with ⟨x, Ax, cx, rfl, hp, hx, hb9⟩ | ⟨rfl, hno, hb9⟩
      · have hxl : x.length ≤ 4 := (of_decide_eq_true hp.1 : rightP x).1
        have HX := Lib.hid (text_yes w9 (c := cx) hx (Nat.le_refl _) (right_fit hp.1) (by omega) hp.1)
        have hqx : ((⟨(textB x).toArray⟩ : ByteArray).toList == t.toList) = true := by
          rw [bytes_eqd]
          exact dct (bytes_ext (by have := hp.2; simpa using this))
        generalize (⟨(textB x).toArray⟩ : ByteArray) = tx at *
        have hb0 := hb05.trans (hb9.mono hb05.size)
        clear hp
        go_wp2_with fail
        refine HX.out.mono ?_
        rintro e w10 ⟨rfl, hb10⟩
        go_wp2
        go_ret
        exact ⟨rfl, hb0.trans (hb10.mono hb0.size)⟩
      · have hb0 := hb05.trans (hb9.mono hb05.size)
        clear hno
        go_wp2
        go_ret
        exact ⟨rfl, hb0⟩
  · have HT := Lib.hid (text_yes w3 (c := c) g3 (by omega) Hf.out (by omega) hr)
    have HB := Lib.hid (fun W hW => parse_back (l := l) hr W hW)
    have Hr := Lib.hid hr
    clear hr
    cases hrm : rightB m
    · generalize (⟨(textB l).toArray⟩ : ByteArray) = bs at *
      have Hrm := Lib.hid hrm
      clear hrm
      go_wp2_with fail
      refine HT.out.mono ?_
      rintro e w4 ⟨rfl, hb4⟩
      have hb04 := hb03.trans (hb4.mono s3)
      have s4 := hb04.size
      have g4 := g3.below (hb4.mono (by omega))
      have k4 := k3.below (hb4.mono (by omega))
      clear hb4
      have HTM := Lib.hid (text_no w4 (c := c1) k4 (by omega) Hf1.out (by omega) Hrm.out)
      go_wp2_with fail
      refine HTM.out.mono ?_
      rintro e w5 ⟨rfl, hb5⟩
      have hb05 := hb04.trans (hb5.mono s4)
      have s5 := hb05.size
      have g5 := g4.below (hb5.mono (by omega))
      have k5 := k4.below (hb5.mono (by omega))
      clear hb5
      go_wp2_with fail
      refine (HB.out _ (hend _ hb05).out).mono ?_
      rintro e w6 ⟨Ax, cx, rfl, hx, hb6⟩
      have hb06 := hb05.trans (hb6.mono s5)
      have s6 := hb06.size
      have HSR := Lib.hid (sameR_calls w6 (c1 := cx) (c2 := c) hx (g5.below (hb6.mono (by omega))) (by omega) (by omega))
      have hself : sameB l l = true := dct rfl
      rw [hself] at HSR
      clear hself
      go_wp2_with fail
      refine HSR.out.mono ?_
      rintro e w7 ⟨rfl, hb7⟩
      have hb07 := hb06.trans (hb7.mono s6)
      go_wp2_with fail
      refine (parse_calls t _ ht (hend _ hb07).out).mono ?_
      intro e w9 hr9
      rcases hr9 with ⟨x, Ax, cx, rfl, hp, hx, hb9⟩ | ⟨rfl, hno, hb9⟩
      · have hxl : x.length ≤ 4 := (of_decide_eq_true hp.1 : rightP x).1
        have HX := Lib.hid (text_yes w9 (c := cx) hx (Nat.le_refl _) (right_fit hp.1) (by omega) hp.1)
        have hqx : ((⟨(textB x).toArray⟩ : ByteArray).toList == t.toList) = true := by
          rw [bytes_eqd]
          exact dct (bytes_ext (by have := hp.2; simpa using this))
        generalize (⟨(textB x).toArray⟩ : ByteArray) = tx at *
        have hb0 := hb07.trans (hb9.mono hb07.size)
        clear hp
        go_wp2_with fail
        refine HX.out.mono ?_
        rintro e w10 ⟨rfl, hb10⟩
        go_wp2
        go_ret
        exact ⟨rfl, hb0.trans (hb10.mono hb0.size)⟩
      · have hb0 := hb07.trans (hb9.mono hb07.size)
        clear hno
        go_wp2
        go_ret
        exact ⟨rfl, hb0⟩
    · have hqe := text_eqd Hr.out hrm
      have Hrm := Lib.hid hrm
      have HTU := Lib.hid (fun W (hk : Labs W B1 A1 m) (hW : B1 ≤ W.heap.size) => text_yes W (c := c1) hk hW Hf1.out (by omega) hrm)
      clear hrm
      generalize (⟨(textB l).toArray⟩ : ByteArray) = bs at *
      generalize (⟨(textB m).toArray⟩ : ByteArray) = bu at *
      go_wp2_with fail
      refine HT.out.mono ?_
      rintro e w4 ⟨rfl, hb4⟩
      have hb04 := hb03.trans (hb4.mono s3)
      have s4 := hb04.size
      have g4 := g3.below (hb4.mono (by omega))
      have k4 := k3.below (hb4.mono (by omega))
      clear hb4
      have HTM := Lib.hid (HTU.out w4 k4 (by omega))
      go_wp2_with fail
      refine HTM.out.mono ?_
      rintro e w5 ⟨rfl, hb5⟩
      have hb05 := hb04.trans (hb5.mono s4)
      have s5 := hb05.size
      have g5 := g4.below (hb5.mono (by omega))
      have k5 := k4.below (hb5.mono (by omega))
      clear hb5
      go_wp2_with fail
      refine (HB.out _ (hend _ hb05).out).mono ?_
      rintro e w6 ⟨Ax, cx, rfl, hx, hb6⟩
      have hb06 := hb05.trans (hb6.mono s5)
      have s6 := hb06.size
      have g6 := g5.below (hb6.mono (by omega))
      have k6 := k5.below (hb6.mono (by omega))
      have HSR := Lib.hid (sameR_calls w6 (c1 := cx) (c2 := c) hx g6 (by omega) (by omega))
      have hself : sameB l l = true := dct rfl
      rw [hself] at HSR
      clear hself
      go_wp2_with fail
      refine HSR.out.mono ?_
      rintro e w7 ⟨rfl, hb7⟩
      have hb07 := hb06.trans (hb7.mono s6)
      have s7 := hb07.size
      have HSM := Lib.hid (sameR_calls w7 (c1 := c) (c2 := c1) (g6.below (hb7.mono (by omega))) (k6.below (hb7.mono (by omega))) (by omega) (by omega))
      generalize sameB l m = sm at *
      have hbb : (sm != sm) = false := by cases sm <;> rfl
      go_wp2_with fail
      refine HSM.out.mono ?_
      rintro e w8 ⟨rfl, hb8⟩
      have hb08 := hb07.trans (hb8.mono s7)
      go_wp2_with fail
      refine (parse_calls t _ ht (hend _ hb08).out).mono ?_
      intro e w9 hr9
      rcases hr9 with ⟨x, Ax, cx, rfl, hp, hx, hb9⟩ | ⟨rfl, hno, hb9⟩
      · have hxl : x.length ≤ 4 := (of_decide_eq_true hp.1 : rightP x).1
        have HX := Lib.hid (text_yes w9 (c := cx) hx (Nat.le_refl _) (right_fit hp.1) (by omega) hp.1)
        have hqx : ((⟨(textB x).toArray⟩ : ByteArray).toList == t.toList) = true := by
          rw [bytes_eqd]
          exact dct (bytes_ext (by have := hp.2; simpa using this))
        generalize (⟨(textB x).toArray⟩ : ByteArray) = tx at *
        have hb0 := hb08.trans (hb9.mono hb08.size)
        clear hp
        go_wp2_with fail
        refine HX.out.mono ?_
        rintro e w10 ⟨rfl, hb10⟩
        go_wp2
        go_ret
        exact ⟨rfl, hb0.trans (hb10.mono hb0.size)⟩
      · have hb0 := hb08.trans (hb9.mono hb08.size)
        clear hno
        go_wp2
        go_ret
        exact ⟨rfl, hb0⟩

/-- The library's variable holds a number in every world that fits the program. -/
theorem var0 {w : World} (h : w.ShapedOpen Try.prog) : ∃ m, w.cell? ⟨0, 0, none⟩ = some (.int .i64 m) := Go.Proofs.cell_of_shapedOpen_int (zero := #[.int .i64 0]) (t := 3) h (of_decide_eq_true (by kernel_rfl)) (by kernel_rfl) rfl (by kernel_rfl) (by kernel_rfl) Try.underlying3

theorem walk {H : Type} {enc : TypeId × Value → H} {W : World} {base : Nat} {v0 v1 v2 : Value} {d0 d1 d2 : DataW H} {p0 p1 p2 : List MemPlace} (hsh : W.ShapedOpen Try.prog) (g0 : Arg enc Try.prog W base 22 v0 d0 p0) (g1 : Arg enc Try.prog W base 22 v1 d1 p1) (g2 : Arg enc Try.prog W base 9 v2 d2 p2) :
    Calls Try.prog 9 #[v0, v1, v2] W fun e w' => e = .returned (.bool true) ∧ Below W.heap.size W w' := by
  obtain ⟨A, c, l, rfl, _, hl, hL, hF⟩ := arg_labs g0
  obtain ⟨A1, c1, m, rfl, _, hm, hM, hG⟩ := arg_labs g1
  obtain ⟨t, rfl, _, _⟩ := g2.str Try.underlying9
  cases hq : fewB l
  · exact early W hL (Nat.le_refl _) hF hl hM (Nat.le_refl _) hG hm t (.inl hq)
  · cases hr : fewB m
    · exact early W hL (Nat.le_refl _) hF hl hM (Nat.le_refl _) hG hm t (.inr (.inl ⟨hq, hr⟩))
    · by_cases ht : t.size ≤ 600
      · exact body W hL (Nat.le_refl _) hF hl hM (Nat.le_refl _) hG hm t hq hr ht (var0 hsh)
      · exact early W hL (Nat.le_refl _) hF hl hM (Nat.le_refl _) hG hm t (.inr (.inr ⟨hq, hr, by omega⟩))
end Go.Proofs.Ytbnlfljlomhngaa.lawLabelBack
