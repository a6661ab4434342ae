/- The walk of LabelParses. -/
import Derived.Test.YtbnlfljlomhngaaParE
import Derived.Test.YtbnlfljlomhngaaParH
import Derived.Test.YtbnlfljlomhngaaOpen
namespace Go.Proofs.Ytbnlfljlomhngaa.lawLabelParses
open Go.RowKit

set_option maxRecDepth 100000 in
theorem early (w : World) (s : ByteArray) (hs : 600 < s.size) :
    Calls Try.prog 8 #[.string s] w fun e w' => e = .returned (.bool true) ∧ Below w.heap.size w w' := by
  have d1 : decide ((600 : Int) < (s.size : Int)) = true := dct (by omega)
  go_enter Try.func8, Try.ntmps8
  go_wp2_with fail
  refine (lives_calls w).mono ?_
  rintro e w1 ⟨rfl, hb1⟩
  have s1 := hb1.size
  go_wp2_with fail
  refine (lives_calls w1).mono ?_
  rintro e w2 ⟨rfl, hb2⟩
  go_wp2
  go_ret
  exact ⟨rfl, hb1.trans (hb2.mono s1)⟩

set_option maxRecDepth 100000 in
set_option maxHeartbeats 1600000 in
theorem body (w : World) (s : ByteArray) (hs : s.size ≤ 600) (hm : ∃ m, w.cell? ⟨0, 0, none⟩ = some (.int .i64 m)) :
    Calls Try.prog 8 #[.string s] w fun e w' => e = .returned (.bool true) ∧ Below w.heap.size w w' := by
  have d1 : decide ((600 : Int) < (s.size : Int)) = false := dcf (by omega)
  have d2 : ¬ (600 : Int) < (s.size : Int) := by omega
  obtain ⟨m, hm⟩ := hm
  have HM := Lib.hid hm
  clear hm
  go_enter Try.func8, Try.ntmps8
  go_wp2_with fail
  refine (lives_calls w).mono ?_
  rintro e w1 ⟨rfl, hb1⟩
  have s1 := hb1.size
  go_wp2_with fail
  refine (parse_calls s w1 hs ⟨m, cell0_below HM.out hb1⟩).mono ?_
  intro e w2 hr
  rcases hr with ⟨l, A, c, rfl, hp, hl, hb2⟩ | ⟨rfl, hno, hb2⟩
  · have hb02 := hb1.trans (hb2.mono s1)
    have s2 := hb02.size
    have HP := Lib.hid hp
    clear hp
    go_wp2_with fail
    refine (parseR_calls s w2 hs).mono ?_
    intro e w3 hr
    rcases hr with ⟨l', A', c', rfl, hp', hl', hb3⟩ | ⟨rfl, hno, hb3⟩
    · obtain rfl := textB_inj HP.out.1 hp'.1 (HP.out.2.trans hp'.2.symm)
      have hln : l.length ≤ 4 := (of_decide_eq_true HP.out.1 : rightP l).1
      have hb03 := hb02.trans (hb3.mono s2)
      have s3 := hb3.size
      have HSR := Lib.hid (sameR_calls w3 (c1 := c) (c2 := c') ((hl.below hb3).more s3) hl' (by omega) (by omega))
      have hself : sameB l l = true := dct rfl
      rw [hself] at HSR
      clear hp' hself
      go_wp2_with fail
      refine HSR.out.mono ?_
      rintro e w4 ⟨rfl, hb4⟩
      go_wp2
      go_ret
      exact ⟨rfl, hb03.trans (hb4.mono hb03.size)⟩
    · exact absurd HP.out (hno l)
  · have hb02 := hb1.trans (hb2.mono s1)
    have s2 := hb02.size
    have HNo := Lib.hid hno
    clear hno
    go_wp2_with fail
    refine (parseR_calls s w2 hs).mono ?_
    intro e w3 hr
    rcases hr with ⟨l', A', c', rfl, hp', hl', hb3⟩ | ⟨rfl, hno', hb3⟩
    · exact absurd hp' (HNo.out l')
    · clear hno'
      go_wp2
      go_ret
      exact ⟨rfl, hb02.trans (hb3.mono s2)⟩

/-- The library's variable holds a number in every world that fits the program. -/
theorem var0 {w : World} (h : w.ShapedOpen Try.prog) : ∃ m, w.cell? ⟨0, 0, none⟩ = some (.int .i64 m) := Go.Proofs.cell_of_shapedOpen_int (zero := #[.int .i64 0]) (t := 3) h (of_decide_eq_true (by kernel_rfl)) (by kernel_rfl) rfl (by kernel_rfl) (by kernel_rfl) Try.underlying3

theorem walk {H : Type} {enc : TypeId × Value → H} {W : World} {base : Nat} {v0 : Value} {d0 : DataW H} {p0 : List MemPlace} (hsh : W.ShapedOpen Try.prog) (g0 : Arg enc Try.prog W base 9 v0 d0 p0) :
    Calls Try.prog 8 #[v0] W fun e w' => e = .returned (.bool true) ∧ Below W.heap.size W w' := by
  obtain ⟨s, rfl, _, _⟩ := g0.str Try.underlying9
  by_cases h : s.size ≤ 600
  · exact body W s h (var0 hsh)
  · exact early W s (by omega)
end Go.Proofs.Ytbnlfljlomhngaa.lawLabelParses
