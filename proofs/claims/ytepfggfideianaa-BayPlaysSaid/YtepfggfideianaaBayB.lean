/- Contracts of bay (chapter 15): a box that may be missing; Either; the law's lives. -/
import Derived.Test.YtepfggfideianaaBayA
import Derived.Test.YtepfggfideianaaInts
namespace Go.Proofs.Ytepfggfideianaa
open Go.RowKit Go.Conc

/-- A box (or nil, of which the things put in, F, are none) holds l. -/
def Side (w : World) (v : Value) (g : Nat) (F l : List Int) : Prop := (v = .pointer none ∧ F = [] ∧ l = []) ∨ ∃ gb, v = .pointer (some ⟨gb, 0, none⟩) ∧ Blk w gb 64 #[.chan (some g)] ∧ Ch w g 101 l

theorem blk_ne_ch {w : World} {gb g cap : Nat} {t : TypeId} {cs : Array Value} {l : List Int} (hb : Blk w gb t cs) (h : Ch w g cap l) : gb ≠ g := by
  rintro rfl
  obtain ⟨s, r, h⟩ := h
  unfold Blk at hb
  rw [hb] at h
  cases h
theorem Side.below {w w' : World} {v : Value} {g B : Nat} {F l : List Int} (h : Side w v g F l) (hb : Below B w w') (hB : w.heap.size ≤ B) : Side w' v g F l := by
  rcases h with h | ⟨gb, e, h1, h2⟩
  · exact .inl h
  · exact .inr ⟨gb, e, h1.below hb (Nat.lt_of_lt_of_le h1.lt hB), h2.below hb (Nat.lt_of_lt_of_le h2.lt hB)⟩
/-- Another box's channel turns: this one stands. -/
theorem Side.other {w w' : World} {v : Value} {g g' cap : Nat} {F l l' : List Int} (h : Side w v g F l) (ho : Only g' w w') (hg : g ≠ g') (hc : Ch w g' cap l') : Side w' v g F l := by
  rcases h with h | ⟨gb, e, h1, h2⟩
  · exact .inl h
  · exact .inr ⟨gb, e, ho.blk h1 (blk_ne_ch h1 hc), h2.only ho hg⟩

theorem put_side (w : World) {v1 v2 : Value} {g1 g2 : Nat} {F1 F2 l1 l2 : List Int} (x : Int) (h1 : Side w v1 g1 F1 l1) (h2 : Side w v2 g2 F2 l2) (hg : g1 ≠ g2) (hF : F1 ≠ []) (hl : l1.length < 101) :
    Calls Try.prog 9 #[v1, .int .i64 x] w fun e w' => e = .returned (.bool true) ∧ Side w' v1 g1 F1 (l1 ++ [x]) ∧ Side w' v2 g2 F2 l2 ∧ Only g1 w w' := by
  rcases h1 with ⟨_, hn, _⟩ | ⟨gb, rfl, hb, hc⟩
  · exact absurd hn hF
  · refine (put_ok w x hb hc hl).mono ?_
    rintro e w' ⟨rfl, k1, k2⟩
    exact ⟨rfl, .inr ⟨gb, rfl, k2.blk hb (blk_ne_ch hb hc), k1⟩, h2.other k2 (fun e => hg e.symm) hc, k2⟩
theorem either_1 (w : World) {v1 v2 : Value} {g1 g2 : Nat} {F1 F2 l1 l2 : List Int} {x : Int} (h1 : Side w v1 g1 F1 (x :: l1)) (h2 : Side w v2 g2 F2 l2) (hg : g1 ≠ g2) :
    Calls Try.prog 10 #[v1, v2] w fun e w' => e = .returned (.tuple #[.int .i64 x, .int .i64 1]) ∧ Side w' v1 g1 F1 l1 ∧ Side w' v2 g2 F2 l2 ∧ Only g1 w w' := by
  rcases h1 with ⟨_, _, hn⟩ | ⟨gb, rfl, hb, hc⟩
  · cases hn
  · have h2' := h2
    rcases h2 with ⟨rfl, _, _⟩ | ⟨gd, rfl, hb2, hc2⟩
    · refine (either_full_nil w hb hc).mono ?_
      rintro e w' ⟨rfl, k1, k2⟩
      exact ⟨rfl, .inr ⟨gb, rfl, k2.blk hb (blk_ne_ch hb hc), k1⟩, h2'.other k2 (fun e => hg e.symm) hc, k2⟩
    · refine (either_full_some (cap2 := 0) w hb hc hb2).mono ?_
      rintro e w' ⟨rfl, k1, k2⟩
      exact ⟨rfl, .inr ⟨gb, rfl, k2.blk hb (blk_ne_ch hb hc), k1⟩, h2'.other k2 (fun e => hg e.symm) hc, k2⟩
theorem either_2 (w : World) {v1 v2 : Value} {g1 g2 : Nat} {F1 F2 l2 : List Int} {x : Int} (h1 : Side w v1 g1 F1 []) (h2 : Side w v2 g2 F2 (x :: l2)) (hg : g1 ≠ g2) :
    Calls Try.prog 10 #[v1, v2] w fun e w' => e = .returned (.tuple #[.int .i64 x, .int .i64 2]) ∧ Side w' v1 g1 F1 [] ∧ Side w' v2 g2 F2 l2 ∧ Only g2 w w' := by
  have h1' := h1
  rcases h2 with ⟨_, _, hn⟩ | ⟨gd, rfl, hb2, hc2⟩
  · cases hn
  · rcases h1 with ⟨rfl, _, _⟩ | ⟨gb, rfl, hb, hc⟩
    · refine (either_nil_full w hb2 hc2).mono ?_
      rintro e w' ⟨rfl, k1, k2⟩
      exact ⟨rfl, h1'.other k2 hg hc2, .inr ⟨gd, rfl, k2.blk hb2 (blk_ne_ch hb2 hc2), k1⟩, k2⟩
    · refine (either_empty_full w hb hc hb2 hc2).mono ?_
      rintro e w' ⟨rfl, k1, k2⟩
      exact ⟨rfl, h1'.other k2 hg hc2, .inr ⟨gd, rfl, k2.blk hb2 (blk_ne_ch hb2 hc2), k1⟩, k2⟩
theorem either_0 (w : World) {v1 v2 : Value} {g1 g2 : Nat} {F1 F2 : List Int} (h1 : Side w v1 g1 F1 []) (h2 : Side w v2 g2 F2 []) :
    Calls Try.prog 10 #[v1, v2] w fun e w' => e = .returned (.tuple #[.int .i64 0, .int .i64 0]) ∧ w = w' := by
  rcases h1 with ⟨rfl, _, _⟩ | ⟨gb, rfl, hb, hc⟩
  · rcases h2 with ⟨rfl, _, _⟩ | ⟨gd, rfl, hb2, hc2⟩
    · exact either_nil_nil w
    · exact either_nil_empty w hb2 hc2
  · rcases h2 with ⟨rfl, _, _⟩ | ⟨gd, rfl, hb2, hc2⟩
    · exact either_empty_nil w hb hc
    · exact either_empty_empty w hb hc hb2 hc2

set_option maxRecDepth 100000 in
set_option maxHeartbeats 800000 in
theorem lives_calls (w : World) :
    Calls Try.prog 7 #[] w fun e w' => e = .returned (.bool true) ∧ Below w.heap.size w w' := by
  have hnew := Lib.hid (new_ok w 2 (by omega) (by omega))
  go_enter Try.func7, Try.ntmps7
  go_wp2_with fail
  refine hnew.out.mono ?_
  rintro e w1 ⟨rfl, hb1, hc1, hbel1⟩
  go_wp2_with fail
  refine (put_ok w1 5 hb1 hc1 (by simp)).mono ?_
  rintro e w2 ⟨rfl, hc2, ho2⟩
  have hb2 := ho2.blk hb1 (blk_ne_ch hb1 hc1)
  go_wp2_with fail
  refine (put_ok w2 6 hb2 hc2 (by simp)).mono ?_
  rintro e w3 ⟨rfl, hc3, ho3⟩
  have hb3 := ho3.blk hb2 (blk_ne_ch hb2 hc2)
  go_wp2_with fail
  refine (put_full w3 7 hb3 hc3 (by simp)).mono ?_
  rintro e w' ⟨rfl, rfl⟩
  go_wp2_with fail
  refine (len_calls w3 hb3 hc3).mono ?_
  rintro e w' ⟨rfl, rfl⟩
  go_wp2
  go_ret
  exact ⟨rfl, hbel1.trans ((ho2.trans ho3).below (Nat.le_refl _) hbel1.size)⟩
end Go.Proofs.Ytepfggfideianaa
