/- Sort of the reference (chapter 9). -/
import Derived.Test.YtennddlihcamnaaProg
import Derived.Test.YtennddlihcamnaaRwG
import Derived.IntWalk
namespace Go.Proofs.Ytennddlihcamnaa
set_option linter.unusedVariables false
set_option linter.unusedSimpArgs false
open Go.RowKit Go.Proofs.Ytennddlihcamnaa.So

section
variable {α : Type} [Inhabited α] {lt : α → α → Bool}
theorem getD_eqR {d : List α} {i : Nat} (h : i < d.length) : d[i] = d.getD i default := by simp [List.getD, List.getElem?_eq_getElem h]
/-- One thing put in: the place that the search from behind finds. -/
theorem insR_at (hO : Swo lt) {L : List α} {x : α} {n : Nat} (hs : Srt lt L) (hn : n ≤ L.length) (h1 : ∀ q ∈ L.drop n, lt x q = true) (h2 : n = 0 ∨ lt x (L.getD (n - 1) default) = false) : mg lt L [x] = L.take n ++ x :: L.drop n := by
  have h3 : ∀ p ∈ L.take n, lt x p = false := by
    intro p hp
    rcases h2 with h2 | h2
    · subst h2; simp at hp
    · obtain ⟨j, hj, rfl⟩ := List.getElem_of_mem hp
      rw [List.length_take] at hj
      rw [List.getElem_take, getD_eqR (by omega)]
      rcases Nat.lt_or_ge j (n - 1) with h4 | h4
      · refine hO.neg _ _ _ h2 ?_
        have := List.pairwise_iff_getElem.1 hs j (n - 1) (by omega) (by omega) h4
        rw [getD_eqR, getD_eqR] at this
        exact this
      · obtain rfl : j = n - 1 := by omega
        exact h2
  have := mg_one (lt := lt) h3 h1
  rwa [List.take_append_drop] at this
theorem dropR_more {L : List α} {x : α} {n : Nat} (hn : n < L.length) (h1 : ∀ q ∈ L.drop (n + 1), lt x q = true) (h2 : lt x (L.getD n default) = true) : ∀ q ∈ L.drop n, lt x q = true := by
  intro q hq
  rw [List.drop_eq_getElem_cons hn, getD_eqR hn] at hq
  rcases List.mem_cons.1 hq with rfl | hq
  · exact h2
  · exact h1 q hq
end
theorem flatR_take {α : Type} (c : α → Nat → Value) : ∀ (d : List α) (k : Nat), (Sr.flat c d).take (k * 9) = Sr.flat c (d.take k)
  | [], k => by simp [Sr.flat]
  | x :: r, 0 => by simp [Sr.flat]
  | x :: r, k + 1 => by
    rw [Sr.flat_cons, List.take_succ_cons, Sr.flat_cons, ← flatR_take c r k, show (k + 1) * 9 = (Sr.nine c x).length + k * 9 by show _ = 9 + _; omega, List.take_length_add_append]
theorem flatR_drop {α : Type} (c : α → Nat → Value) : ∀ (d : List α) (k : Nat), (Sr.flat c d).drop (k * 9) = Sr.flat c (d.drop k)
  | [], k => by simp [Sr.flat]
  | x :: r, 0 => by simp
  | x :: r, k + 1 => by
    rw [Sr.flat_cons, List.drop_succ_cons, ← flatR_drop c r k, show (k + 1) * 9 = 9 + k * 9 by omega, ← List.drop_drop]
    rfl
theorem takeR_snoc {l : List Rw} {j : Nat} (h : j < l.length) : l.take (j + 1) = l.take j ++ [Sr.gt l j] := by rw [List.take_succ_eq_append_getElem h, Sr.gt_eq h]
/-- Where a slice begins that is cut at k. -/
def cutR (A : Option Addr) (c k size : Nat) : Option Addr := if c = k then A else A.map (·.add (k * size))
theorem Reads.cutR_ {w : World} {B size n : Nat} {A : Option Addr} {xs : List Value} (h : Reads w B size A n xs) {k cap : Nat} (hk : k ≤ n) (hc : n ≤ cap) : Reads w B size (cutR A cap k size) (n - k) (xs.drop (k * size)) := h.cut hk hc
set_option maxRecDepth 100000 in
theorem sliceR_at (w : World) (A : Option Addr) (n c k : Nat) (h : k ≤ n) (_hc : n ≤ c) :
    (Instr.slice 33 (.slice A n c) (some (.int .i64 (k : Int))) none none).run Try.prog w = .ok (.slice (cutR A c k 9) (n - k) (c - k)) w := by
  unfold cutR
  have e : ((k : Int)).toNat = k := by omega
  obtain ⟨i, hi, _, hs, _⟩ := info_parts Try.infoRow
  have hE : Try.prog.elem 33 = 37 := by kernel_rfl
  rw [run_slice_l w _ A n c Try.underlying33 .i64 _ (by omega) (by omega)]
  rw [hE]
  simp [sliced, Result.andThen, e, sizeOf, typeInfo, hi, hs]

theorem cfR_gt {x y : Rw} : decide (0 < cfR y x) = Sr.ltc cfR x y := by
  unfold Sr.ltc
  have := triR.anti x y
  rw [this]
  refine decide_eq_decide.2 ?_
  omega
set_option maxRecDepth 100000 in
set_option maxHeartbeats 12800000 in
theorem refSort_calls (w : World) {B c : Nat} {A : Option Addr} {l : List Rw} (h : Reads w B 9 A l.length (Sr.flat Rw.c l)) (hB : B ≤ w.heap.size) (hn : l.length ≤ 200) :
    Calls Try.prog 19 #[.slice A l.length c] w fun e w' => ∃ A' c', e = .returned (.slice A' l.length c') ∧ w'.ownsRow w.heap.size 37 9 (.slice A' l.length c') l.length (Sr.flat Rw.c (isort (Sr.ltc cfR) l)) ∧ Below w.heap.size w w' := by
  have HE := Lib.hid h
  clear h
  go_enter Try.func19, Try.ntmps19
  go_wp2
  go_loopw [3, 11] (fun va vi wr => ∃ (i : Nat) (A' : Option Addr) (c' : Nat), i ≤ l.length ∧ vi = .int .i64 (i : Int) ∧ va = .slice A' i c' ∧ i ≤ c' ∧ Hid ((isort (Sr.ltc cfR) (l.take i)).length = i) ∧ Hid (wr.ownsRow w.heap.size 37 9 (.slice A' i c') i (Sr.flat Rw.c (isort (Sr.ltc cfR) (l.take i)))) ∧ Below w.heap.size w wr) (fun _ vi _ => l.length - (intOf vi).toNat)
  case atStart => exact ⟨0, _, _, Nat.zero_le _, rfl, rfl, Nat.zero_le _, Lib.hid rfl, Lib.hid (World.ownsRow_made w #[] 0 (Nat.le_refl _) (Nat.zero_le _) rfl), (Below.refl _ _).alloc (Nat.le_refl _) _⟩
  case round =>
    obtain ⟨i, A', c', hil, rfl, rfl, hic, HLn, HO, hbel⟩ := hrel
    obtain ⟨wo, rfl⟩ : ∃ wo : World, wo = wr := ⟨_, rfl⟩
    have hsz := hbel.size
    by_cases hlt : i < l.length
    · obtain ⟨bA, off, hA, hbB, hcell⟩ := reads_nine (HE.out.below (hbel.mono hB)) (by omega)
      obtain ⟨y0, y1, y2, y3, y4, y5, y6, y7, y8⟩ := hcell i hlt
      have HT : Hid (isort (Sr.ltc cfR) (l.take (i + 1)) = mg (Sr.ltc cfR) (isort (Sr.ltc cfR) (l.take i)) [Sr.gt l i]) := Lib.hid (by rw [takeR_snoc hlt, isort_snoc])
      have HSR : Hid (Srt (Sr.ltc cfR) (isort (Sr.ltc cfR) (l.take i))) := Lib.hid (isort_srt swoR _)
      subst hA
      clear hcell
      generalize Sr.gt l i = x at *
      generalize isort (Sr.ltc cfR) (l.take i) = L at *
      go_wp2
      have hbk : Blk (wo.alloc (.cells #[.int .i64 x.kind, .int .i64 x.time, .slice x.A x.labs.length x.cp, .string x.text, .int .i64 x.value, .bool x.null, .int .i64 x.maker, .int .i64 x.seq, .int .i64 x.place] 37)) wo.heap.size 37 #[.int .i64 x.kind, .int .i64 x.time, .slice x.A x.labs.length x.cp, .string x.text, .int .i64 x.value, .bool x.null, .int .i64 x.maker, .int .i64 x.seq, .int .i64 x.place] := Blk.new _ _ _
      have hsw : (wo.alloc (.cells #[.int .i64 x.kind, .int .i64 x.time, .slice x.A x.labs.length x.cp, .string x.text, .int .i64 x.value, .bool x.null, .int .i64 x.maker, .int .i64 x.seq, .int .i64 x.place] 37)).heap.size = wo.heap.size + 1 := by simp
      have hbe : Below wo.heap.size wo (wo.alloc (.cells #[.int .i64 x.kind, .int .i64 x.time, .slice x.A x.labs.length x.cp, .string x.text, .int .i64 x.value, .bool x.null, .int .i64 x.maker, .int .i64 x.seq, .int .i64 x.place] 37)) := (Below.refl _ _).alloc (Nat.le_refl _) _
      have HI := Lib.hid (⟨hbk, hbe, hsw⟩ : _ ∧ _ ∧ _)
      have hsw2 : wo.heap.size < (wo.alloc (.cells #[.int .i64 x.kind, .int .i64 x.time, .slice x.A x.labs.length x.cp, .string x.text, .int .i64 x.value, .bool x.null, .int .i64 x.maker, .int .i64 x.seq, .int .i64 x.place] 37)).heap.size := by omega
      clear hbk hbe hsw
      generalize wo.alloc (.cells #[.int .i64 x.kind, .int .i64 x.time, .slice x.A x.labs.length x.cp, .string x.text, .int .i64 x.value, .bool x.null, .int .i64 x.maker, .int .i64 x.seq, .int .i64 x.place] 37) = w4 at *
      go_loopw [6] (fun vn wx => ∃ n : Nat, n ≤ i ∧ vn = .int .i64 (n : Int) ∧ Hid (∀ q ∈ L.drop n, Sr.ltc cfR x q = true) ∧ Below w4.heap.size w4 wx) (fun vn _ => (intOf vn).toNat)
      case atStart => exact ⟨i, Nat.le_refl _, rfl, Lib.hid (by rw [List.drop_of_length_le (by rw [HLn.out]; exact Nat.le_refl _)]; simp), Below.refl _ _⟩
      case round =>
        obtain ⟨n, hni, rfl, HQ, hb4⟩ := hrel
        have hs4 := hb4.size
        have hbw : Below wo.heap.size wo wr := HI.out.2.1.trans (hb4.mono (by omega))
        obtain ⟨z0, z1, z2, z3, z4, z5, z6, z7, z8⟩ := blk_nineR (HI.out.1.below hb4 hsw2)
        have HB4 := Lib.hid hb4
        clear hb4
        by_cases hn0 : 0 < n
        · have hE2 : Reads wr wo.heap.size 9 A' L.length (Sr.flat Rw.c L) := by
            have h1 := Reads.below (Reads.of_own HO.out) hbw
            rw [HLn.out]
            exact h1
          obtain ⟨g, o2, hA2, hgB, hcell⟩ := reads_nine hE2 (by rw [HLn.out]; omega)
          obtain ⟨q0, q1, q2, q3, q4, q5, q6, q7, q8⟩ := hcell (n - 1) (by rw [HLn.out]; omega)
          have hAC := fun W => cmpRwR_calls W (Sr.gt L (n - 1)) x
          have HMF : Hid (Sr.ltc cfR x (Sr.gt L (n - 1)) = false → mg (Sr.ltc cfR) L [x] = L.take n ++ x :: L.drop n) := Lib.hid fun hq => insR_at (lt := Sr.ltc cfR) swoR (x := x) (n := n) HSR.out (by rw [HLn.out]; exact hni) HQ.out (.inr hq)
          have HD : Hid (((∀ q ∈ L.drop (n - 1 + 1), Sr.ltc cfR x q = true) → Sr.ltc cfR x (Sr.gt L (n - 1)) = true → ∀ q ∈ L.drop (n - 1), Sr.ltc cfR x q = true) ∧ Sr.ltc cfR x (Sr.gt L (n - 1)) = Sr.ltc cfR x (Sr.gt L (n - 1))) := Lib.hid ⟨dropR_more (lt := Sr.ltc cfR) (L := L) (x := x) (n := n - 1) (by rw [HLn.out]; omega), rfl⟩
          have Hkeep : Hid (∀ W, Below wr.heap.size wr W → (W.cell? ⟨wo.heap.size, 0, none⟩ = some (.int .i64 x.kind) ∧ W.cell? ⟨wo.heap.size, 1, none⟩ = some (.int .i64 x.time) ∧ W.cell? ⟨wo.heap.size, 2, none⟩ = some (.slice x.A x.labs.length x.cp) ∧ W.cell? ⟨wo.heap.size, 3, none⟩ = some (.string x.text) ∧ W.cell? ⟨wo.heap.size, 4, none⟩ = some (.int .i64 x.value) ∧ W.cell? ⟨wo.heap.size, 5, none⟩ = some (.bool x.null) ∧ W.cell? ⟨wo.heap.size, 6, none⟩ = some (.int .i64 x.maker) ∧ W.cell? ⟨wo.heap.size, 7, none⟩ = some (.int .i64 x.seq) ∧ W.cell? ⟨wo.heap.size, 8, none⟩ = some (.int .i64 x.place)) ∧ W.cell? ⟨g, o2 + (n - 1) * 9, none⟩ = some (.int .i64 (Sr.gt L (n - 1)).kind) ∧ W.cell? ⟨g, o2 + (n - 1) * 9 + 1, none⟩ = some (.int .i64 (Sr.gt L (n - 1)).time) ∧ W.cell? ⟨g, o2 + (n - 1) * 9 + 2, none⟩ = some (.slice (Sr.gt L (n - 1)).A (Sr.gt L (n - 1)).labs.length (Sr.gt L (n - 1)).cp) ∧ W.cell? ⟨g, o2 + (n - 1) * 9 + 3, none⟩ = some (.string (Sr.gt L (n - 1)).text) ∧ W.cell? ⟨g, o2 + (n - 1) * 9 + 4, none⟩ = some (.int .i64 (Sr.gt L (n - 1)).value) ∧ W.cell? ⟨g, o2 + (n - 1) * 9 + 5, none⟩ = some (.bool (Sr.gt L (n - 1)).null) ∧ W.cell? ⟨g, o2 + (n - 1) * 9 + 6, none⟩ = some (.int .i64 (Sr.gt L (n - 1)).maker) ∧ W.cell? ⟨g, o2 + (n - 1) * 9 + 7, none⟩ = some (.int .i64 (Sr.gt L (n - 1)).seq) ∧ W.cell? ⟨g, o2 + (n - 1) * 9 + 8, none⟩ = some (.int .i64 (Sr.gt L (n - 1)).place)) := Lib.hid fun W hW => ⟨blk_nineR ((HI.out.1.below HB4.out hsw2).below hW (by omega)), reads_nine_at (Reads.below hE2 (hW.mono (by omega))) hA2 (by rw [HLn.out]; omega)⟩
          unfold rwA at hAC
          clear hcell hE2
          generalize Sr.gt L (n - 1) = y at *
          subst hA2
          have d0 : decide (0 < (n : Int)) = true := dct (by omega)
          cases hlc : Sr.ltc cfR x y
          · have HM := Lib.hid (HMF.out hlc)
            have d1 : decide (0 < cfR y x) = false := by rw [cfR_gt]; exact hlc
            generalize cfR y x = zc at *
            have HAC := Lib.hid hAC
            clear hAC hlc HD HMF
            have i1 : IntKind.i64.wrap ((n : Int) - 1) = (n : Int) - 1 := IntWalk.i64_in _ (by omega)
            have i2 : ((n : Int) - 1).toNat = n - 1 := by omega
            have i3 : (0 : Int) ≤ (n : Int) - 1 := by omega
            have i4 : (1 : Int) ≤ (n : Int) := by omega
            have i5 : (n : Int) - 1 < (i : Int) := by omega
            go_wp2_with fail
            go_region_held3 (fun w' => (w'.cell? ⟨wo.heap.size, 0, none⟩ = some (.int .i64 x.kind) ∧ w'.cell? ⟨wo.heap.size, 1, none⟩ = some (.int .i64 x.time) ∧ w'.cell? ⟨wo.heap.size, 2, none⟩ = some (.slice x.A x.labs.length x.cp) ∧ w'.cell? ⟨wo.heap.size, 3, none⟩ = some (.string x.text) ∧ w'.cell? ⟨wo.heap.size, 4, none⟩ = some (.int .i64 x.value) ∧ w'.cell? ⟨wo.heap.size, 5, none⟩ = some (.bool x.null) ∧ w'.cell? ⟨wo.heap.size, 6, none⟩ = some (.int .i64 x.maker) ∧ w'.cell? ⟨wo.heap.size, 7, none⟩ = some (.int .i64 x.seq) ∧ w'.cell? ⟨wo.heap.size, 8, none⟩ = some (.int .i64 x.place)) ∧ w'.cell? ⟨g, o2 + (n - 1) * 9, none⟩ = some (.int .i64 y.kind) ∧ w'.cell? ⟨g, o2 + (n - 1) * 9 + 1, none⟩ = some (.int .i64 y.time) ∧ w'.cell? ⟨g, o2 + (n - 1) * 9 + 2, none⟩ = some (.slice y.A y.labs.length y.cp) ∧ w'.cell? ⟨g, o2 + (n - 1) * 9 + 3, none⟩ = some (.string y.text) ∧ w'.cell? ⟨g, o2 + (n - 1) * 9 + 4, none⟩ = some (.int .i64 y.value) ∧ w'.cell? ⟨g, o2 + (n - 1) * 9 + 5, none⟩ = some (.bool y.null) ∧ w'.cell? ⟨g, o2 + (n - 1) * 9 + 6, none⟩ = some (.int .i64 y.maker) ∧ w'.cell? ⟨g, o2 + (n - 1) * 9 + 7, none⟩ = some (.int .i64 y.seq) ∧ w'.cell? ⟨g, o2 + (n - 1) * 9 + 8, none⟩ = some (.int .i64 y.place)) (exact Hkeep.out _ (by first | assumption | exact below_drewN_ (Below.refl _ _) 1)) ((go_at_call 21; refine (HAC.out _).mono ?_; rintro e w5 ⟨rfl, hb5⟩; have he5 : Below wr.heap.size wr w5 := (below_drewN_ (Below.refl _ _) 1).trans hb5))
            clear i1 i2 i3 i4 i5
            have hs5 := he5.size
            have hb05 : Below wo.heap.size wo w5 := hbw.trans (he5.mono (by omega))
            have hsw5 : wo.heap.size < w5.heap.size := by omega
            have HBK5 := Lib.hid ((HI.out.1.below HB4.out hsw2).below he5 (by omega))
            have HRD5 : Hid (Reads w5 wo.heap.size 9 (some ⟨g, o2, none⟩) i (Sr.flat Rw.c L)) := Lib.hid ((Reads.of_own HO.out).below hb05)
            have HB05 := Lib.hid hb05
            clear he5 hb05
            go_wp2_with (at_builtin; go_must (refine wpList_append_sl _ rfl (.tmp 31) (.tmp 34) _ rfl w5.heap.size 37 _ 9 96 Try.underlying33 Try.infoRow rfl (by omega) _ _ _ rfl (World.ownsRow_made w5 #[] 0 (Nat.le_refl _) (Nat.zero_le _) rfl) wo.heap.size _ n c' (Sr.flat Rw.c (L.take n)) rfl (by have := HRD5.out.take hni; rw [flatR_take] at this; exact this.below ((Below.refl _ _).alloc (by omega) _)) (rflat_one _) (by unfold maxLen; omega) (by omega) (by simp) ?_))
            intro A6 c6 w6 hc61 hc62 hrd6 hbel6 hown6 _ _
            have hown6' : w6.ownsRow w5.heap.size 37 9 (.slice A6 n c6) n (Sr.flat Rw.c (L.take n)) := by simpa using hown6
            have hb56 : Below w5.heap.size w5 w6 := ((Below.refl _ _).alloc (Nat.le_refl _) _).trans hbel6
            have hs6 := hb56.size
            obtain ⟨z0, z1, z2, z3, z4, z5, z6, z7, z8⟩ := blk_nineR (HBK5.out.below hb56 hsw5)
            have HO6 := Lib.hid hown6'
            have HB56 := Lib.hid hb56
            clear hown6 hown6' hrd6 hbel6 hb56 hc61 hc62
            go_wp2_with (at_builtin; go_must (refine wpList_append_sl _ rfl (.tmp 36) (.tmp 38) _ rfl w5.heap.size 37 _ 9 96 Try.underlying33 Try.infoRow rfl (by omega) _ _ _ rfl (HO6.out.alloc _) (w6.heap.size + 1) _ 1 1 (Sr.nine Rw.c x) rfl (Reads.made (n := 1) (size := 9) w6 _ _ rfl) (by intro u hu; simp [Sr.nine] at hu; rcases hu with rfl | rfl | rfl | rfl | rfl | rfl | rfl | rfl | rfl <;> exact Rw.one x _) (by unfold maxLen; omega) (by omega) (by simp; omega) ?_))
            intro A7 c7 w7 hc71 hc72 hrd7 hbel7 hown7 _ _
            have hb57 : Below w5.heap.size w5 w7 := (HB56.out.alloc (by omega) _).trans hbel7
            have hs7 := hb57.size
            have hcut := Reads.cutR_ (k := n) (cap := c') (n := i) (HRD5.out.below (hb57.mono (by omega))) hni hic
            have hrun := fun W => sliceR_at W (some ⟨g, o2, none⟩) i c' n hni hic
            have HO7 := Lib.hid hown7
            have HB57 := Lib.hid hb57
            rw [flatR_drop] at hcut
            generalize cutR (some ⟨g, o2, none⟩) c' n 9 = AC at *
            have HCUT := Lib.hid hcut
            clear hown7 hrd7 hbel7 hb57 hc71 hc72 hcut
            go_wp2_with (at_builtin; go_must (refine wpList_append_sl _ rfl (.tmp 40) (.tmp 43) _ rfl w5.heap.size 37 _ 9 96 Try.underlying33 Try.infoRow rfl (by omega) _ _ _ rfl HO7.out wo.heap.size AC (i - n) (c' - n) (Sr.flat Rw.c (L.drop n)) rfl HCUT.out (rflat_one _) (by unfold maxLen; omega) (by omega) (by omega) ?_))
            intro A8 c8 w8 hc81 hc82 hrd8 hbel8 hown8 _ _
            have e8 : n + 1 + (i - n) = i + 1 := by omega
            rw [e8] at hown8 hc81 ⊢
            have HO8 : Hid (w8.ownsRow w.heap.size 37 9 (.slice A8 (i + 1) c8) (i + 1) (Sr.flat Rw.c (isort (Sr.ltc cfR) (l.take (i + 1))))) := Lib.hid (by
              rw [HT.out, HM.out, Sr.flat_app, Sr.flat_cons]
              exact own_base hown8 (by omega))
            have HL8 : Hid ((isort (Sr.ltc cfR) (l.take (i + 1))).length = i + 1) := Lib.hid (by rw [isort_len, List.length_take]; omega)
            have HB8 : Hid (Below w.heap.size w w8) := Lib.hid (hbel.trans ((HB05.out.mono hsz).trans ((HB57.out.mono (by omega)).trans (hbel8.mono (by omega)))))
            clear hown8 hrd8 hbel8 e8 hrun hc82
            go_wp2
            go_roundw
            case rel => exact ⟨i + 1, A8, c8, by omega, by go_num, rfl, hc81, HL8, HO8, HB8.out⟩
            case measure => simp [intOf]; omega
          · have HQ2 : Hid (∀ q ∈ L.drop (n - 1), Sr.ltc cfR x q = true) := Lib.hid (HD.out.1 (by rw [Nat.sub_add_cancel (by omega)]; exact HQ.out) hlc)
            have d1 : decide (0 < cfR y x) = true := by rw [cfR_gt]; exact hlc
            generalize cfR y x = zc at *
            have HAC := Lib.hid hAC
            clear hAC hlc HD HMF
            have i1 : IntKind.i64.wrap ((n : Int) - 1) = (n : Int) - 1 := IntWalk.i64_in _ (by omega)
            have i2 : ((n : Int) - 1).toNat = n - 1 := by omega
            have i3 : (0 : Int) ≤ (n : Int) - 1 := by omega
            have i4 : (1 : Int) ≤ (n : Int) := by omega
            have i5 : (n : Int) - 1 < (i : Int) := by omega
            go_wp2_with fail
            go_region_held3 (fun w' => (w'.cell? ⟨wo.heap.size, 0, none⟩ = some (.int .i64 x.kind) ∧ w'.cell? ⟨wo.heap.size, 1, none⟩ = some (.int .i64 x.time) ∧ w'.cell? ⟨wo.heap.size, 2, none⟩ = some (.slice x.A x.labs.length x.cp) ∧ w'.cell? ⟨wo.heap.size, 3, none⟩ = some (.string x.text) ∧ w'.cell? ⟨wo.heap.size, 4, none⟩ = some (.int .i64 x.value) ∧ w'.cell? ⟨wo.heap.size, 5, none⟩ = some (.bool x.null) ∧ w'.cell? ⟨wo.heap.size, 6, none⟩ = some (.int .i64 x.maker) ∧ w'.cell? ⟨wo.heap.size, 7, none⟩ = some (.int .i64 x.seq) ∧ w'.cell? ⟨wo.heap.size, 8, none⟩ = some (.int .i64 x.place)) ∧ w'.cell? ⟨g, o2 + (n - 1) * 9, none⟩ = some (.int .i64 y.kind) ∧ w'.cell? ⟨g, o2 + (n - 1) * 9 + 1, none⟩ = some (.int .i64 y.time) ∧ w'.cell? ⟨g, o2 + (n - 1) * 9 + 2, none⟩ = some (.slice y.A y.labs.length y.cp) ∧ w'.cell? ⟨g, o2 + (n - 1) * 9 + 3, none⟩ = some (.string y.text) ∧ w'.cell? ⟨g, o2 + (n - 1) * 9 + 4, none⟩ = some (.int .i64 y.value) ∧ w'.cell? ⟨g, o2 + (n - 1) * 9 + 5, none⟩ = some (.bool y.null) ∧ w'.cell? ⟨g, o2 + (n - 1) * 9 + 6, none⟩ = some (.int .i64 y.maker) ∧ w'.cell? ⟨g, o2 + (n - 1) * 9 + 7, none⟩ = some (.int .i64 y.seq) ∧ w'.cell? ⟨g, o2 + (n - 1) * 9 + 8, none⟩ = some (.int .i64 y.place)) (exact Hkeep.out _ (by first | assumption | exact below_drewN_ (Below.refl _ _) 1)) ((go_at_call 21; refine (HAC.out _).mono ?_; rintro e w5 ⟨rfl, hb5⟩; have he5 : Below wr.heap.size wr w5 := (below_drewN_ (Below.refl _ _) 1).trans hb5))
            clear i1 i2 i3 i4 i5
            go_wp2
            go_roundw
            case rel => exact ⟨n - 1, by omega, by go_num, HQ2, HB4.out.trans (he5.mono hs4)⟩
            case measure => simp [intOf]; omega
        · have d0 : decide (0 < (n : Int)) = false := dcf (by omega)
          have HM := Lib.hid (insR_at (lt := Sr.ltc cfR) swoR (x := x) (n := n) HSR.out (by rw [HLn.out]; exact hni) HQ.out (.inl (by omega)))
          go_wp2_with fail
          go_quiet (fail)
          have he5 : Below wr.heap.size wr (wr.drewN nq) := below_drewN_ (Below.refl _ _) _
          generalize wr.drewN nq = w5 at *
          have hs5 := he5.size
          have hb05 : Below wo.heap.size wo w5 := hbw.trans (he5.mono (by omega))
          have hsw5 : wo.heap.size < w5.heap.size := by omega
          have HBK5 := Lib.hid ((HI.out.1.below HB4.out hsw2).below he5 (by omega))
          have HRD5 : Hid (Reads w5 wo.heap.size 9 A' i (Sr.flat Rw.c L)) := Lib.hid ((Reads.of_own HO.out).below hb05)
          have HB05 := Lib.hid hb05
          clear he5 hb05
          go_wp2_with (at_builtin; go_must (refine wpList_append_sl _ rfl (.tmp 31) (.tmp 34) _ rfl w5.heap.size 37 _ 9 96 Try.underlying33 Try.infoRow rfl (by omega) _ _ _ rfl (World.ownsRow_made w5 #[] 0 (Nat.le_refl _) (Nat.zero_le _) rfl) wo.heap.size _ n c' (Sr.flat Rw.c (L.take n)) rfl (by have := HRD5.out.take hni; rw [flatR_take] at this; exact this.below ((Below.refl _ _).alloc (by omega) _)) (rflat_one _) (by unfold maxLen; omega) (by omega) (by simp) ?_))
          intro A6 c6 w6 hc61 hc62 hrd6 hbel6 hown6 _ _
          have hown6' : w6.ownsRow w5.heap.size 37 9 (.slice A6 n c6) n (Sr.flat Rw.c (L.take n)) := by simpa using hown6
          have hb56 : Below w5.heap.size w5 w6 := ((Below.refl _ _).alloc (Nat.le_refl _) _).trans hbel6
          have hs6 := hb56.size
          obtain ⟨z0, z1, z2, z3, z4, z5, z6, z7, z8⟩ := blk_nineR (HBK5.out.below hb56 hsw5)
          have HO6 := Lib.hid hown6'
          have HB56 := Lib.hid hb56
          clear hown6 hown6' hrd6 hbel6 hb56 hc61 hc62
          go_wp2_with (at_builtin; go_must (refine wpList_append_sl _ rfl (.tmp 36) (.tmp 38) _ rfl w5.heap.size 37 _ 9 96 Try.underlying33 Try.infoRow rfl (by omega) _ _ _ rfl (HO6.out.alloc _) (w6.heap.size + 1) _ 1 1 (Sr.nine Rw.c x) rfl (Reads.made (n := 1) (size := 9) w6 _ _ rfl) (by intro u hu; simp [Sr.nine] at hu; rcases hu with rfl | rfl | rfl | rfl | rfl | rfl | rfl | rfl | rfl <;> exact Rw.one x _) (by unfold maxLen; omega) (by omega) (by simp; omega) ?_))
          intro A7 c7 w7 hc71 hc72 hrd7 hbel7 hown7 _ _
          have hb57 : Below w5.heap.size w5 w7 := (HB56.out.alloc (by omega) _).trans hbel7
          have hs7 := hb57.size
          have hcut := Reads.cutR_ (k := n) (cap := c') (n := i) (HRD5.out.below (hb57.mono (by omega))) hni hic
          have hrun := fun W => sliceR_at W A' i c' n hni hic
          have HO7 := Lib.hid hown7
          have HB57 := Lib.hid hb57
          rw [flatR_drop] at hcut
          generalize cutR A' c' n 9 = AC at *
          have HCUT := Lib.hid hcut
          clear hown7 hrd7 hbel7 hb57 hc71 hc72 hcut
          go_wp2_with (at_builtin; go_must (refine wpList_append_sl _ rfl (.tmp 40) (.tmp 43) _ rfl w5.heap.size 37 _ 9 96 Try.underlying33 Try.infoRow rfl (by omega) _ _ _ rfl HO7.out wo.heap.size AC (i - n) (c' - n) (Sr.flat Rw.c (L.drop n)) rfl HCUT.out (rflat_one _) (by unfold maxLen; omega) (by omega) (by omega) ?_))
          intro A8 c8 w8 hc81 hc82 hrd8 hbel8 hown8 _ _
          have e8 : n + 1 + (i - n) = i + 1 := by omega
          rw [e8] at hown8 hc81 ⊢
          have HO8 : Hid (w8.ownsRow w.heap.size 37 9 (.slice A8 (i + 1) c8) (i + 1) (Sr.flat Rw.c (isort (Sr.ltc cfR) (l.take (i + 1))))) := Lib.hid (by
            rw [HT.out, HM.out, Sr.flat_app, Sr.flat_cons]
            exact own_base hown8 (by omega))
          have HL8 : Hid ((isort (Sr.ltc cfR) (l.take (i + 1))).length = i + 1) := Lib.hid (by rw [isort_len, List.length_take]; omega)
          have HB8 : Hid (Below w.heap.size w w8) := Lib.hid (hbel.trans ((HB05.out.mono hsz).trans ((HB57.out.mono (by omega)).trans (hbel8.mono (by omega)))))
          clear hown8 hrd8 hbel8 e8 hrun hc82
          go_wp2
          go_roundw
          case rel => exact ⟨i + 1, A8, c8, by omega, by go_num, rfl, hc81, HL8, HO8, HB8.out⟩
          case measure => simp [intOf]; omega
    · obtain rfl : i = l.length := by omega
      rw [List.take_length] at HO
      go_wp2
      go_ret
      exact ⟨A', c', rfl, HO.out, hbel⟩
end Go.Proofs.Ytennddlihcamnaa
