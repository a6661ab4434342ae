/- For the laws about Split: rows held against each other, right rows, rows that tie, Split of no window. -/
import Derived.Test.YtennddlihcamnaaProg
import Derived.Test.YtennddlihcamnaaRwH
import Derived.Test.YtennddlihcamnaaRecB
namespace Go.Proofs.Ytennddlihcamnaa.Sp
set_option linter.unusedVariables false
set_option linter.unusedSimpArgs false
open Go.RowKit Go.Proofs.Ytennddlihcamnaa Go.Proofs.Ytennddlihcamnaa.So

set_option maxRecDepth 100000 in
set_option maxHeartbeats 3200000 in
theorem sameRowsN_calls (w : World) {B1 B2 c1 c2 : Nat} {A1 A2 : Option Addr} {l m : List Rw} (h1 : Rows w B1 A1 l) (h2 : Rows w B2 A2 m) (hB1 : B1 ≤ w.heap.size) (hB2 : B2 ≤ w.heap.size) (hs : l.length = m.length) (hn : l.length ≤ 4398046511104) :
    Calls Try.prog 16 #[.slice A1 l.length c1, .slice A2 m.length c2] w fun e w' => (∃ b, e = .returned (.bool b)) ∧ Below w.heap.size w w' := by
  have hne : ((l.length : Int) != (l.length : Int)) = false := nef rfl
  have H1 := Lib.hid h1
  have H2 := Lib.hid h2
  have HLN := Lib.hid hs
  rw [← hs]
  clear h1 h2 hs
  go_enter Try.func16, Try.ntmps16
  go_wp2
  go_loopw [13] (fun i wr => ∃ k : Nat, k ≤ l.length ∧ i = .int .i64 (k : Int) ∧ Below w.heap.size w wr) (fun i _ => l.length - (intOf i).toNat)
  case atStart => exact ⟨0, Nat.zero_le _, rfl, Below.refl _ _⟩
  case round =>
    obtain ⟨k, hk, rfl, hbel⟩ := hrel
    by_cases hlt : k < l.length
    · have hsz := hbel.size
      have r1 := H1.out.below (hbel.mono hB1)
      have r2 := H2.out.below (hbel.mono hB2)
      obtain ⟨g1, o1, e1, hg1, _⟩ := reads_nine r1.reads (by omega)
      obtain ⟨g2, o2, e2, hg2, _⟩ := reads_nine r2.reads (by rw [← HLN.out]; omega)
      have Hkeep : Hid (∀ W, Below wr.heap.size wr W → (W.cell? ⟨g1, o1 + k * 9, none⟩ = some (.int .i64 (Sr.gt l k).kind) ∧ W.cell? ⟨g1, o1 + k * 9 + 1, none⟩ = some (.int .i64 (Sr.gt l k).time) ∧ W.cell? ⟨g1, o1 + k * 9 + 2, none⟩ = some (.slice (Sr.gt l k).A (Sr.gt l k).labs.length (Sr.gt l k).cp) ∧ W.cell? ⟨g1, o1 + k * 9 + 3, none⟩ = some (.string (Sr.gt l k).text) ∧ W.cell? ⟨g1, o1 + k * 9 + 4, none⟩ = some (.int .i64 (Sr.gt l k).value) ∧ W.cell? ⟨g1, o1 + k * 9 + 5, none⟩ = some (.bool (Sr.gt l k).null) ∧ W.cell? ⟨g1, o1 + k * 9 + 6, none⟩ = some (.int .i64 (Sr.gt l k).maker) ∧ W.cell? ⟨g1, o1 + k * 9 + 7, none⟩ = some (.int .i64 (Sr.gt l k).seq) ∧ W.cell? ⟨g1, o1 + k * 9 + 8, none⟩ = some (.int .i64 (Sr.gt l k).place)) ∧ W.cell? ⟨g2, o2 + k * 9, none⟩ = some (.int .i64 (Sr.gt m k).kind) ∧ W.cell? ⟨g2, o2 + k * 9 + 1, none⟩ = some (.int .i64 (Sr.gt m k).time) ∧ W.cell? ⟨g2, o2 + k * 9 + 2, none⟩ = some (.slice (Sr.gt m k).A (Sr.gt m k).labs.length (Sr.gt m k).cp) ∧ W.cell? ⟨g2, o2 + k * 9 + 3, none⟩ = some (.string (Sr.gt m k).text) ∧ W.cell? ⟨g2, o2 + k * 9 + 4, none⟩ = some (.int .i64 (Sr.gt m k).value) ∧ W.cell? ⟨g2, o2 + k * 9 + 5, none⟩ = some (.bool (Sr.gt m k).null) ∧ W.cell? ⟨g2, o2 + k * 9 + 6, none⟩ = some (.int .i64 (Sr.gt m k).maker) ∧ W.cell? ⟨g2, o2 + k * 9 + 7, none⟩ = some (.int .i64 (Sr.gt m k).seq) ∧ W.cell? ⟨g2, o2 + k * 9 + 8, none⟩ = some (.int .i64 (Sr.gt m k).place)) := Lib.hid fun W hW => ⟨reads_nine_at (r1.reads.below (hW.mono (by omega))) e1 hlt, reads_nine_at (r2.reads.below (hW.mono (by omega))) e2 (by rw [← HLN.out]; exact hlt)⟩
      have k1 := r1.each _ (show Sr.gt l k ∈ l by rw [← Sr.gt_eq hlt]; exact List.getElem_mem _)
      have k2 := r2.each _ (show Sr.gt m k ∈ m by rw [← Sr.gt_eq (by rw [← HLN.out]; exact hlt)]; exact List.getElem_mem _)
      have hS := fun W (hW : Below wr.heap.size wr W) => sameRwR_calls W (Sr.gt l k) (Sr.gt m k) (k1.labs.below (hW.mono (by omega))) (k2.labs.below (hW.mono (by omega))) (by have := hW.size; omega) (by have := hW.size; omega) k1.len k2.len
      generalize hv : sameRwB (Sr.gt l k) (Sr.gt m k) = bv at *
      unfold rwA at hS
      clear r1 r2 k1 k2 hv
      generalize Sr.gt l k = x at *
      generalize Sr.gt m k = y at *
      subst e1 e2
      have HSS := Lib.hid hS
      have i0 : (0 : Int) ≤ (k : Int) := by omega
      have i9 : (k : Int) < (l.length : Int) := by omega
      obtain ⟨⟨p0, p1, p2, p3, p4, p5, p6, p7, p8⟩, q0, q1, q2, q3, q4, q5, q6, q7, q8⟩ := Hkeep.out wr (Below.refl _ _)
      clear hS
      go_wp2_with fail
      go_region_held3 (fun w' => (w'.cell? ⟨g1, o1 + k * 9, none⟩ = some (.int .i64 x.kind) ∧ w'.cell? ⟨g1, o1 + k * 9 + 1, none⟩ = some (.int .i64 x.time) ∧ w'.cell? ⟨g1, o1 + k * 9 + 2, none⟩ = some (.slice x.A x.labs.length x.cp) ∧ w'.cell? ⟨g1, o1 + k * 9 + 3, none⟩ = some (.string x.text) ∧ w'.cell? ⟨g1, o1 + k * 9 + 4, none⟩ = some (.int .i64 x.value) ∧ w'.cell? ⟨g1, o1 + k * 9 + 5, none⟩ = some (.bool x.null) ∧ w'.cell? ⟨g1, o1 + k * 9 + 6, none⟩ = some (.int .i64 x.maker) ∧ w'.cell? ⟨g1, o1 + k * 9 + 7, none⟩ = some (.int .i64 x.seq) ∧ w'.cell? ⟨g1, o1 + k * 9 + 8, none⟩ = some (.int .i64 x.place)) ∧ w'.cell? ⟨g2, o2 + k * 9, none⟩ = some (.int .i64 y.kind) ∧ w'.cell? ⟨g2, o2 + k * 9 + 1, none⟩ = some (.int .i64 y.time) ∧ w'.cell? ⟨g2, o2 + k * 9 + 2, none⟩ = some (.slice y.A y.labs.length y.cp) ∧ w'.cell? ⟨g2, o2 + k * 9 + 3, none⟩ = some (.string y.text) ∧ w'.cell? ⟨g2, o2 + k * 9 + 4, none⟩ = some (.int .i64 y.value) ∧ w'.cell? ⟨g2, o2 + k * 9 + 5, none⟩ = some (.bool y.null) ∧ w'.cell? ⟨g2, o2 + k * 9 + 6, none⟩ = some (.int .i64 y.maker) ∧ w'.cell? ⟨g2, o2 + k * 9 + 7, none⟩ = some (.int .i64 y.seq) ∧ w'.cell? ⟨g2, o2 + k * 9 + 8, none⟩ = some (.int .i64 y.place)) (exact Hkeep.out _ (by first | assumption | exact below_drewN_ (Below.refl _ _) 1)) ((go_at_call 23; refine (HSS.out _ (below_drewN_ (Below.refl _ _) 1)).mono ?_; rintro e w2 ⟨rfl, hb2⟩; have he2 : Below wr.heap.size wr w2 := (below_drewN_ (Below.refl _ _) 1).trans hb2))
      cases bv
      · go_wp2
        go_ret
        exact ⟨⟨false, rfl⟩, hbel.trans (he2.mono hsz)⟩
      · go_wp2
        go_roundw
        case rel => exact ⟨k + 1, by omega, by go_num, hbel.trans (he2.mono hsz)⟩
        case measure => simp [intOf]; omega
    · obtain rfl : k = l.length := by omega
      go_wp2
      go_ret
      exact ⟨⟨true, rfl⟩, hbel⟩

/-- The record of a row. -/
def recOf (x : Rw) : Rec := ⟨x.kind, x.time, x.A, x.cp, x.labs, x.text, x.value, x.null⟩
def rightL (l : List Rw) : Bool := l.all fun x => recB (recOf x)
set_option maxRecDepth 100000 in
set_option maxHeartbeats 1600000 in
theorem rightL_calls (w : World) {B c : Nat} {A : Option Addr} {l : List Rw} (h : Rows w B A l) (hB : B ≤ w.heap.size) (hn : l.length ≤ 4398046511104) :
    Calls Try.prog 25 #[.slice A l.length c] w fun e w' => e = .returned (.bool (rightL l)) ∧ Below w.heap.size w w' := by
  have H1 := Lib.hid h
  clear h
  go_enter Try.func25, Try.ntmps25
  go_wp2
  go_loopw [7] (fun i wr => ∃ k : Nat, k ≤ l.length ∧ i = .int .i64 (k : Int) ∧ Hid (∀ j, j < k → recB (recOf (Sr.gt l j)) = true) ∧ Below w.heap.size w wr) (fun i _ => l.length - (intOf i).toNat)
  case atStart => exact ⟨0, Nat.zero_le _, rfl, Lib.hid fun j hj => absurd hj (by omega), Below.refl _ _⟩
  case round =>
    obtain ⟨k, hk, rfl, HA, hbel⟩ := hrel
    by_cases hlt : k < l.length
    · have hsz := hbel.size
      have r1 := H1.out.below (hbel.mono hB)
      obtain ⟨g1, o1, e1, hg1, -⟩ := reads_nine r1.reads (by omega)
      have HP := Lib.hid (reads_nine_at r1.reads e1 hlt)
      have k1 := r1.each _ (show Sr.gt l k ∈ l by rw [← Sr.gt_eq hlt]; exact List.getElem_mem _)
      have hok : (recOf (Sr.gt l k)).ok wr B := ⟨k1.labs, k1.fit, k1.len, k1.text, k1.time, k1.value⟩
      have HR := Lib.hid fun W (hW : Below wr.heap.size wr W) => recRightR_calls W (recOf (Sr.gt l k)) (hok.below (hW.mono (by omega))) (by have := hW.size; omega)
      have HMem : Hid (Sr.gt l k ∈ l) := Lib.hid (by rw [← Sr.gt_eq hlt]; exact List.getElem_mem _)
      have HS : Hid (recB (recOf (Sr.gt l k)) = true → ∀ j, j < k + 1 → recB (recOf (Sr.gt l j)) = true) := Lib.hid fun hx j hj => by
        rcases Nat.lt_or_ge j k with h1 | h1
        · exact HA.out j h1
        · obtain rfl : j = k := by omega
          exact hx
      subst e1
      clear r1 k1 hok
      generalize Sr.gt l k = x at *
      obtain ⟨p0, p1, p2, p3, p4, p5, p6, p7, p8⟩ := HP.out
      clear HP
      have i0 : (0 : Int) ≤ (k : Int) := by omega
      have i9 : (k : Int) < (l.length : Int) := by omega
      unfold Rec.agg recOf at HR
      dsimp only at HR
      have HNo : Hid (recB (recOf x) = false → rightL l = false) := Lib.hid fun hx => by
        unfold rightL
        rw [List.all_eq_false]
        exact ⟨x, HMem.out, by rw [hx]; simp⟩
      have HV : Hid (recB (recOf x) = recB ⟨x.kind, x.time, x.A, x.cp, x.labs, x.text, x.value, x.null⟩) := Lib.hid rfl
      rw [HV.out] at HNo HS
      generalize recB ⟨x.kind, x.time, x.A, x.cp, x.labs, x.text, x.value, x.null⟩ = bv at *
      go_wp2_with fail
      refine (HR.out _ ((Below.refl _ _).alloc (Nat.le_refl _) _)).mono ?_
      rintro e w2 ⟨rfl, hb2⟩
      have hb02 : Below w.heap.size w w2 := hbel.trans ((((Below.refl wr.heap.size wr).alloc (Nat.le_refl _) _).trans (hb2.mono (by simp))).mono hsz)
      cases bv
      · have HF := Lib.hid (HNo.out rfl)
        go_wp2
        go_ret
        exact ⟨by rw [HF.out]; rfl, hb02⟩
      · have HS2 := Lib.hid (HS.out rfl)
        go_wp2
        go_roundw
        case rel => exact ⟨k + 1, by omega, by go_num, HS2, hb02⟩
        case measure => simp [intOf]; omega
    · obtain rfl : k = l.length := by omega
      have HT : Hid (rightL l = true) := Lib.hid (by
        unfold rightL
        rw [List.all_eq_true]
        intro y hy
        obtain ⟨i, hi, rfl⟩ := List.getElem_of_mem hy
        rw [Sr.gt_eq hi]
        exact HA.out i hi)
      go_wp2
      go_ret
      exact ⟨by rw [HT.out]; rfl, hbel⟩
theorem rightL_labs {l : List Rw} (h : rightL l = true) : ∀ x ∈ l, rightB x.labs = true := fun x hx => by
  have h1 := List.all_eq_true.1 h x hx
  have hp : recP (recOf x) := of_decide_eq_true h1
  exact hp.2.2.1
set_option maxRecDepth 100000 in
theorem split_none (w : World) {n c n2 c2 : Nat} {A A2 : Option Addr} {win : Int} (hw : win < 1) :
    Calls Try.prog 24 #[.slice A n c, .int .i64 win, .slice A2 n2 c2] w fun e w' => e = .returned (.slice none 0 0) ∧ Below w.heap.size w w' := by
  go_enter Try.func24, Try.ntmps24
  go_wp2
  go_ret
  exact ⟨rfl, Below.refl _ _⟩

set_option maxRecDepth 100000 in
set_option maxHeartbeats 3200000 in
theorem twins_calls (w : World) {B c : Nat} {A : Option Addr} {l : List Rw} (h : Rows w B A l) (hB : B ≤ w.heap.size) (hn : l.length ≤ 4398046511104) (ht : ∃ i j, j < i ∧ i < l.length ∧ cfR (Sr.gt l i) (Sr.gt l j) = 0) :
    Calls Try.prog 29 #[.slice A l.length c] w fun e w' => e = .returned (.bool true) ∧ Below w.heap.size w w' := by
  have H1 := Lib.hid h
  have HT := Lib.hid ht
  clear h ht
  go_enter Try.func29, Try.ntmps29
  go_wp2
  go_loopw [7] (fun vi wr => ∃ i : Nat, i ≤ l.length ∧ vi = .int .i64 (i : Int) ∧ Hid (∀ a b, b < a → a < i → cfR (Sr.gt l a) (Sr.gt l b) ≠ 0) ∧ Below w.heap.size w wr) (fun vi _ => l.length - (intOf vi).toNat)
  case atStart => exact ⟨0, Nat.zero_le _, rfl, Lib.hid fun a b _ h => absurd h (by omega), Below.refl _ _⟩
  case round =>
    obtain ⟨i, hi, rfl, HA, hbi⟩ := hrel
    obtain ⟨wo, rfl⟩ : ∃ wo : World, wo = wr := ⟨_, rfl⟩
    by_cases hlt : i < l.length
    · go_wp2
      go_loopw [11] (fun vk wr => ∃ k : Nat, k ≤ i ∧ vk = .int .i64 (k : Int) ∧ Hid (∀ b, b < k → cfR (Sr.gt l i) (Sr.gt l b) ≠ 0) ∧ Below w.heap.size w wr) (fun vk _ => i - (intOf vk).toNat)
      case atStart => exact ⟨0, Nat.zero_le _, rfl, Lib.hid fun b h => absurd h (by omega), hbi⟩
      case round =>
        obtain ⟨k, hk, rfl, HB, hbk⟩ := hrel
        by_cases hltk : k < i
        · have hsz := hbk.size
          have hkl : k < l.length := by omega
          have r1 := H1.out.below (hbk.mono hB)
          obtain ⟨g, o, e1, hg, -⟩ := reads_nine r1.reads (by omega)
          have Hkeep : Hid (∀ W, Below wr.heap.size wr W → (W.cell? ⟨g, o + i * 9, none⟩ = some (.int .i64 (Sr.gt l i).kind) ∧ W.cell? ⟨g, o + i * 9 + 1, none⟩ = some (.int .i64 (Sr.gt l i).time) ∧ W.cell? ⟨g, o + i * 9 + 2, none⟩ = some (.slice (Sr.gt l i).A (Sr.gt l i).labs.length (Sr.gt l i).cp) ∧ W.cell? ⟨g, o + i * 9 + 3, none⟩ = some (.string (Sr.gt l i).text) ∧ W.cell? ⟨g, o + i * 9 + 4, none⟩ = some (.int .i64 (Sr.gt l i).value) ∧ W.cell? ⟨g, o + i * 9 + 5, none⟩ = some (.bool (Sr.gt l i).null) ∧ W.cell? ⟨g, o + i * 9 + 6, none⟩ = some (.int .i64 (Sr.gt l i).maker) ∧ W.cell? ⟨g, o + i * 9 + 7, none⟩ = some (.int .i64 (Sr.gt l i).seq) ∧ W.cell? ⟨g, o + i * 9 + 8, none⟩ = some (.int .i64 (Sr.gt l i).place)) ∧ W.cell? ⟨g, o + k * 9, none⟩ = some (.int .i64 (Sr.gt l k).kind) ∧ W.cell? ⟨g, o + k * 9 + 1, none⟩ = some (.int .i64 (Sr.gt l k).time) ∧ W.cell? ⟨g, o + k * 9 + 2, none⟩ = some (.slice (Sr.gt l k).A (Sr.gt l k).labs.length (Sr.gt l k).cp) ∧ W.cell? ⟨g, o + k * 9 + 3, none⟩ = some (.string (Sr.gt l k).text) ∧ W.cell? ⟨g, o + k * 9 + 4, none⟩ = some (.int .i64 (Sr.gt l k).value) ∧ W.cell? ⟨g, o + k * 9 + 5, none⟩ = some (.bool (Sr.gt l k).null) ∧ W.cell? ⟨g, o + k * 9 + 6, none⟩ = some (.int .i64 (Sr.gt l k).maker) ∧ W.cell? ⟨g, o + k * 9 + 7, none⟩ = some (.int .i64 (Sr.gt l k).seq) ∧ W.cell? ⟨g, o + k * 9 + 8, none⟩ = some (.int .i64 (Sr.gt l k).place)) := Lib.hid fun W hW => ⟨reads_nine_at (r1.reads.below (hW.mono (by omega))) e1 hlt, reads_nine_at (r1.reads.below (hW.mono (by omega))) e1 hkl⟩
          have HC2 := Lib.hid fun W => cmpRwR_calls W (Sr.gt l i) (Sr.gt l k)
          have HS : Hid (cfR (Sr.gt l i) (Sr.gt l k) ≠ 0 → ∀ b, b < k + 1 → cfR (Sr.gt l i) (Sr.gt l b) ≠ 0) := Lib.hid fun hx b hb => by
            rcases Nat.lt_or_ge b k with h1 | h1
            · exact HB.out b h1
            · obtain rfl : b = k := by omega
              exact hx
          clear r1
          generalize hz : cfR (Sr.gt l i) (Sr.gt l k) = z at *
          clear hz
          have HSS := Lib.hid HS.out
          clear HS
          generalize Sr.gt l i = x at *
          generalize Sr.gt l k = y at *
          unfold rwA at HC2
          have i0 : (0 : Int) ≤ (i : Int) := by omega
          have i9 : (i : Int) < (l.length : Int) := by omega
          have j0 : (0 : Int) ≤ (k : Int) := by omega
          have j9 : (k : Int) < (l.length : Int) := by omega
          have j8 : (k : Int) < (i : Int) := by omega
          obtain ⟨⟨p0, p1, p2, p3, p4, p5, p6, p7, p8⟩, q0, q1, q2, q3, q4, q5, q6, q7, q8⟩ := Hkeep.out wr (Below.refl _ _)
          subst e1
          go_wp2_with fail
          go_region_held3 (fun w' => (w'.cell? ⟨g, o + i * 9, none⟩ = some (.int .i64 x.kind) ∧ w'.cell? ⟨g, o + i * 9 + 1, none⟩ = some (.int .i64 x.time) ∧ w'.cell? ⟨g, o + i * 9 + 2, none⟩ = some (.slice x.A x.labs.length x.cp) ∧ w'.cell? ⟨g, o + i * 9 + 3, none⟩ = some (.string x.text) ∧ w'.cell? ⟨g, o + i * 9 + 4, none⟩ = some (.int .i64 x.value) ∧ w'.cell? ⟨g, o + i * 9 + 5, none⟩ = some (.bool x.null) ∧ w'.cell? ⟨g, o + i * 9 + 6, none⟩ = some (.int .i64 x.maker) ∧ w'.cell? ⟨g, o + i * 9 + 7, none⟩ = some (.int .i64 x.seq) ∧ w'.cell? ⟨g, o + i * 9 + 8, none⟩ = some (.int .i64 x.place)) ∧ w'.cell? ⟨g, o + k * 9, none⟩ = some (.int .i64 y.kind) ∧ w'.cell? ⟨g, o + k * 9 + 1, none⟩ = some (.int .i64 y.time) ∧ w'.cell? ⟨g, o + k * 9 + 2, none⟩ = some (.slice y.A y.labs.length y.cp) ∧ w'.cell? ⟨g, o + k * 9 + 3, none⟩ = some (.string y.text) ∧ w'.cell? ⟨g, o + k * 9 + 4, none⟩ = some (.int .i64 y.value) ∧ w'.cell? ⟨g, o + k * 9 + 5, none⟩ = some (.bool y.null) ∧ w'.cell? ⟨g, o + k * 9 + 6, none⟩ = some (.int .i64 y.maker) ∧ w'.cell? ⟨g, o + k * 9 + 7, none⟩ = some (.int .i64 y.seq) ∧ w'.cell? ⟨g, o + k * 9 + 8, none⟩ = some (.int .i64 y.place)) (exact Hkeep.out _ (by first | assumption | exact below_drewN_ (Below.refl _ _) 1)) ((go_at_call 21; refine (HC2.out _).mono ?_; rintro e wb ⟨rfl, hbb⟩; have heb : Below wr.heap.size wr wb := (below_drewN_ (Below.refl _ _) 1).trans hbb))
          by_cases hz : z = 0
          · have dz : (z == 0) = true := eqt hz
            go_wp2
            go_ret
            exact ⟨rfl, hbk.trans (heb.mono hsz)⟩
          · have dz : (z == 0) = false := eqf hz
            have HS3 := Lib.hid (HSS.out hz)
            go_wp2
            go_roundw
            case rel => exact ⟨k + 1, by omega, by go_num, HS3, hbk.trans (heb.mono hsz)⟩
            case measure => simp [intOf]; omega
        · obtain rfl : k = i := by omega
          have HA2 : Hid (∀ a b, b < a → a < k + 1 → cfR (Sr.gt l a) (Sr.gt l b) ≠ 0) := Lib.hid fun a b h1 h2 => by
            rcases Nat.lt_or_ge a k with h3 | h3
            · exact HA.out a b h1 h3
            · obtain rfl : a = k := by omega
              exact HB.out b h1
          go_wp2
          go_roundw
          case rel => exact ⟨k + 1, by omega, by go_num, HA2, hbk⟩
          case measure => simp [intOf]; omega
    · obtain rfl : i = l.length := by omega
      exfalso
      obtain ⟨a, b, h1, h2, h3⟩ := HT.out
      exact HA.out a b h1 h2 h3
end Go.Proofs.Ytennddlihcamnaa.Sp
