/- Plain entries; the chapter's example. -/
import Derived.Test.YtophfgijfmdbcaaProg
import Derived.Test.YtophfgijfmdbcaaMeI
namespace Go.Proofs.Ytophfgijfmdbcaa
open Go.RowKit Go.Proofs.Ytophfgijfmdbcaa.So

def FitE (l : List Ent) : Prop := ∀ x ∈ l, x.key.size ≤ 140737488351232 ∧ x.part.size ≤ 140737488351232
def plainAt (l : List Ent) (i : Nat) : Prop := i ≤ 60 ∧ 1 ≤ (gt l i).rows ∧ (gt l i).rows ≤ 2048 ∧ ∀ k, k < i → (gt l k).key ≠ (gt l i).key
def PlainE (l : List Ent) : Prop := ∀ i, i < l.length → plainAt l i
theorem PlainE.len {l : List Ent} (h : PlainE l) : l.length ≤ 61 := by
  rcases Nat.lt_or_ge 61 l.length with h1 | h1
  · have := (h 61 h1).1; omega
  · exact h1
theorem PlainE.rows {l : List Ent} (h : PlainE l) : ∀ x ∈ l, 1 ≤ x.rows ∧ x.rows ≤ 2048 := fun x hx => by
  obtain ⟨i, hi, rfl⟩ := List.getElem_of_mem hx
  rw [gt_eq hi]
  exact ⟨(h i hi).2.1, (h i hi).2.2.1⟩
theorem PlainE.keys {l : List Ent} (h : PlainE l) : l.Pairwise fun x y => x.key ≠ y.key := by
  rw [List.pairwise_iff_getElem]
  intro i j hi hj hij
  rw [gt_eq hi, gt_eq hj]
  exact (h j hj).2.2.2 i hij
def RetPlain (w : World) (l : List Ent) (e : Ending) (w' : World) : Prop := ∃ b, e = .returned (.bool b) ∧ (b = true → PlainE l) ∧ Below w.heap.size w w'

set_option maxRecDepth 100000 in
set_option maxHeartbeats 3200000 in
theorem plain_calls (w : World) {B c : Nat} {A : Option Addr} {l : List Ent} (h : Ents w B A l) (hB : B ≤ w.heap.size) (hn : l.length ≤ 4398046511104) (hf : FitE l) :
    Calls Try.prog 10 #[.slice A l.length c] w (RetPlain w l) := by
  have HF := Lib.hid hf
  clear hf
  go_enter Try.func10, Try.ntmps10
  go_wp2
  go_loopw [8] (fun vi wr => ∃ i : Nat, i ≤ l.length ∧ vi = .int .i64 (i : Int) ∧ Hid (∀ q, q < i → plainAt l q) ∧ Below w.heap.size w wr) (fun vi _ => l.length - (intOf vi).toNat)
  case atStart => exact ⟨0, Nat.zero_le _, rfl, Lib.hid fun q hq => absurd hq (by omega), Below.refl _ _⟩
  case round =>
    obtain ⟨i, hin, rfl, HP, hbel⟩ := hrel
    obtain ⟨wo, rfl⟩ : ∃ wo : World, wo = wr := ⟨_, rfl⟩
    by_cases hlt : i < l.length
    · have hent : Ents wo B A l := Reads.below h (hbel.mono hB)
      obtain ⟨bA, off, rfl, hbB, hcell⟩ := hent.cellAt (by omega)
      have hc := hcell i (by omega)
      have y0 := hc 0 (by omega)
      have y1 := hc 1 (by omega)
      have y2 := hc 2 (by omega)
      have y3 := hc 3 (by omega)
      have y4 := hc 4 (by omega)
      have y5 := hc 5 (by omega)
      have y6 := hc 6 (by omega)
      have y7 := hc 7 (by omega)
      have y8 := hc 8 (by omega)
      have hx := HF.out _ (show gt l i ∈ l by rw [← gt_eq (by omega)]; exact List.getElem_mem _)
      have HX : Hid (i ≤ 60 → 1 ≤ (gt l i).rows → (gt l i).rows ≤ 2048 → (∀ k, k < i → (gt l k).key ≠ (gt l i).key) → ∀ q, q < i + 1 → plainAt l q) := Lib.hid fun h1 h2 h3 h4 q hq => by
        rcases Nat.lt_or_ge q i with h5 | h5
        · exact HP.out q h5
        · obtain rfl : q = i := by omega
          exact ⟨h1, h2, h3, h4⟩
      generalize gt l i = x at *
      obtain ⟨hx0, hx1⟩ := hx
      simp only [Ent.c, Nat.add_zero] at y0 y1 y2 y3 y4 y5 y6 y7 y8
      have hsz := hbel.size
      clear hcell hc hent
      by_cases p1 : i ≤ 60
      · have d1 : decide (60 < (i : Int)) = false := dcf (by omega)
        by_cases p2 : 1 ≤ x.rows
        · have d2 : decide (x.rows < 1) = false := dcf (by omega)
          by_cases p3 : x.rows ≤ 2048
          · have d3 : decide (2048 < x.rows) = false := dcf (by omega)
            by_cases p4 : x.key.size ≤ 100
            · have d4 : decide (100 < (x.key.size : Int)) = false := dcf (by omega)
              by_cases p5 : x.part.size ≤ 300
              · have d5 : decide (300 < (x.part.size : Int)) = false := dcf (by omega)
                go_wp2
                have hbk : Blk (wo.alloc (.cells #[.string x.key, .int .i64 x.window, .string x.part, .int .i64 x.first, .int .i64 x.last, .int .i64 x.rows, .int .i64 x.size, .int .u32 x.sum, .int .i64 x.born] 29)) wo.heap.size 29 #[.string x.key, .int .i64 x.window, .string x.part, .int .i64 x.first, .int .i64 x.last, .int .i64 x.rows, .int .i64 x.size, .int .u32 x.sum, .int .i64 x.born] := Blk.new _ _ _
                have hbe : Below wo.heap.size wo (wo.alloc (.cells #[.string x.key, .int .i64 x.window, .string x.part, .int .i64 x.first, .int .i64 x.last, .int .i64 x.rows, .int .i64 x.size, .int .u32 x.sum, .int .i64 x.born] 29)) := (Below.refl _ _).alloc (Nat.le_refl _) _
                have hsw : (wo.alloc (.cells #[.string x.key, .int .i64 x.window, .string x.part, .int .i64 x.first, .int .i64 x.last, .int .i64 x.rows, .int .i64 x.size, .int .u32 x.sum, .int .i64 x.born] 29)).heap.size = wo.heap.size + 1 := by simp
                have HI := Lib.hid (⟨hbk, hbe, hsw⟩ : _ ∧ _ ∧ _)
                clear hbk hbe hsw
                generalize (wo.alloc (.cells #[.string x.key, .int .i64 x.window, .string x.part, .int .i64 x.first, .int .i64 x.last, .int .i64 x.rows, .int .i64 x.size, .int .u32 x.sum, .int .i64 x.born] 29)) = w4 at *
                go_loopw [38] (fun vk wx => ∃ k : Nat, k ≤ i ∧ vk = .int .i64 (k : Int) ∧ Hid (∀ q, q < k → (gt l q).key ≠ x.key) ∧ Below (wo.heap.size + 1) w4 wx) (fun vk _ => i - (intOf vk).toNat)
                case atStart => exact ⟨0, Nat.zero_le _, rfl, Lib.hid fun q hq => absurd hq (by omega), Below.refl _ _⟩
                case round =>
                  obtain ⟨k, hki, rfl, HK, hb4⟩ := hrel
                  have hz := (HI.out.1.below hb4 (Nat.lt_succ_self _)).cell 0
                  simp only [List.getElem?_toArray, List.getElem?_cons_zero, List.getElem?_cons_succ] at hz
                  have hs4 := hb4.size
                  have hs5 := HI.out.2.2
                  rw [hs5] at hs4
                  clear hs5
                  have hbb : Below wo.heap.size wo wr := HI.out.2.1.trans (hb4.mono (by omega))
                  by_cases hkl : k < i
                  · have hent : Ents wr B (some ⟨bA, off, none⟩) l := (Reads.below h (hbel.mono hB)).below (hbb.mono (by omega))
                    obtain ⟨bA', off', e', _, hcell⟩ := hent.cellAt (by omega)
                    injection e' with e'
                    injection e' with e1 e2
                    subst e1 e2
                    have z0 := hcell k (by omega) 0 (by omega)
                    have HN : Hid ((gt l k).key ≠ x.key → ∀ q, q < k + 1 → (gt l q).key ≠ x.key) := Lib.hid fun h1 q hq => by
                      rcases Nat.lt_or_ge q k with h5 | h5
                      · exact HK.out q h5
                      · obtain rfl : q = k := by omega
                        exact h1
                    generalize gt l k = y at *
                    simp only [Ent.c, Nat.add_zero] at z0
                    have hkn : k < l.length := by omega
                    clear hcell hent
                    by_cases he : y.key = x.key
                    · have q : (y.key.toList == x.key.toList) = true := by rw [bytes_eqm]; exact dct he
                      clear he
                      go_wp2
                      go_quiet (fail)
                      go_wp2
                      go_ret
                      exact ⟨false, rfl, fun h => by (cases h), below_drewN_ (hbel.trans (hbb.mono hsz)) _⟩
                    · have q : (y.key.toList == x.key.toList) = false := by rw [bytes_eqm]; exact dcf he
                      have HN2 := Lib.hid (HN.out he)
                      clear he
                      go_wp2
                      go_quiet (fail)
                      go_wp2
                      go_roundw
                      case rel => exact ⟨k + 1, by omega, by go_num, HN2, below_drewN_ hb4 _⟩
                      case measure => simp [intOf]; omega
                  · obtain rfl : k = i := by omega
                    have HP2 := Lib.hid (HX.out p1 p2 p3 HK.out)
                    go_wp2
                    go_roundw
                    case rel => exact ⟨k + 1, by omega, by go_num, HP2, hbel.trans (hbb.mono hsz)⟩
                    case measure => simp [intOf]; omega
              · have d5 : decide (300 < (x.part.size : Int)) = true := dct (by omega)
                go_wp2
                go_ret
                exact ⟨false, rfl, fun h => by (cases h), hbel.alloc hsz _⟩
            · have d4 : decide (100 < (x.key.size : Int)) = true := dct (by omega)
              go_wp2
              go_ret
              exact ⟨false, rfl, fun h => by (cases h), hbel.alloc hsz _⟩
          · have d3 : decide (2048 < x.rows) = true := dct (by omega)
            go_wp2
            go_ret
            exact ⟨false, rfl, fun h => by (cases h), hbel.alloc hsz _⟩
        · have d2 : decide (x.rows < 1) = true := dct (by omega)
          go_wp2
          go_ret
          exact ⟨false, rfl, fun h => by (cases h), hbel.alloc hsz _⟩
      · have d1 : decide (60 < (i : Int)) = true := dct (by omega)
        go_wp2
        go_ret
        exact ⟨false, rfl, fun h => by (cases h), hbel.alloc hsz _⟩
    · obtain rfl : i = l.length := by omega
      go_wp2
      go_ret
      exact ⟨true, rfl, fun _ => HP.out, hbel⟩

def liveE (k : Nat) : List Ent := ([⟨⟨#[97]⟩, 0, ⟨#[]⟩, 0, 0, 3, 0, 0, 0⟩, ⟨⟨#[98]⟩, 0, ⟨#[]⟩, 0, 0, 9, 0, 0, 1⟩, ⟨⟨#[99]⟩, 0, ⟨#[]⟩, 0, 0, 4, 0, 0, 2⟩, ⟨⟨#[100]⟩, 0, ⟨#[]⟩, 0, 0, 2, 0, 0, 3⟩] : List Ent).take k
theorem live_choose : chooseE 5 8 (liveE 4) = [⟨#[97]⟩, ⟨#[99]⟩] := by decide +kernel

set_option maxRecDepth 100000 in
set_option maxHeartbeats 3200000 in
theorem lives_calls (w : World) : Calls Try.prog 9 #[] w fun e w' => e = .returned (.bool true) ∧ Below w.heap.size w w' := by
  go_enter Try.func9, Try.ntmps9
  go_wp2
  go_loopw [1, 7] (fun v1 v7 wr => ∃ (k : Nat) (A : Option Addr) (c : Nat), k ≤ 4 ∧ v7 = .int .i64 (k : Int) ∧ v1 = .slice A k c ∧ Hid (wr.ownsRow (w.heap.size + 1) 29 9 (.slice A k c) k (flat Ent.c (liveE k))) ∧ Hid (Below (w.heap.size + 1) (w.alloc (.cells #[.int .i64 3, .int .i64 9, .int .i64 4, .int .i64 2] 3)) wr)) (fun _ v7 _ => 4 - (intOf v7).toNat)
  case atStart => exact ⟨0, none, 0, by omega, rfl, rfl, Lib.hid (World.ownsRow_nil _ _ _ _), Lib.hid (Below.refl _ _)⟩
  case round =>
    obtain ⟨k, A, c, hk, rfl, rfl, HO, HB⟩ := hrel
    have hsz := HB.out.size
    rw [World.size_alloc] at hsz
    by_cases hlt : k < 4
    · have hk4 : k = 0 ∨ k = 1 ∨ k = 2 ∨ k = 3 := by omega
      have hcell : wr.cell? ⟨w.heap.size, k, none⟩ = some (.int .i64 (gt (liveE 4) k).rows) := by
        rw [((Blk.new w 3 #[.int .i64 3, .int .i64 9, .int .i64 4, .int .i64 2]).below HB.out (by omega)).cell k]
        rcases hk4 with rfl | rfl | rfl | rfl <;> rfl
      have hsl : ∀ W, (Instr.slice 9 (.string ⟨#[97, 98, 99, 100]⟩) (some (.int .i64 (k : Int))) (some (.int .i64 ((k : Int) + 1))) none).run Try.prog W = .ok (.string (gt (liveE 4) k).key) W := by
        intro W
        rcases hk4 with rfl | rfl | rfl | rfl <;> kernel_rfl
      have HE : Hid (gt (liveE 4) k = ⟨(gt (liveE 4) k).key, 0, ⟨#[]⟩, 0, 0, (gt (liveE 4) k).rows, 0, 0, (k : Int)⟩) := Lib.hid (by
        rcases hk4 with rfl | rfl | rfl | rfl <;> rfl)
      have HL : Hid (liveE (k + 1) = liveE k ++ [gt (liveE 4) k]) := Lib.hid (by
        rcases hk4 with rfl | rfl | rfl | rfl <;> rfl)
      generalize (gt (liveE 4) k).key = ky at *
      generalize (gt (liveE 4) k).rows = rw_ at *
      clear hk4
      go_wp2_with (at_builtin; go_must (refine wpList_append_sl _ rfl (.tmp 12) (.tmp 20) _ rfl (w.heap.size + 1) 29 _ 9 88 Try.underlying22 Try.infoEnt rfl (by omega) _ _ _ rfl (HO.out.alloc _) (wr.heap.size + 1) _ 1 1 (nine Ent.c ⟨ky, 0, ⟨#[]⟩, 0, 0, rw_, 0, 0, (k : Int)⟩) rfl (Reads.made (n := 1) (size := 9) wr _ _ rfl) (by simp [nine, Ent.c, Value.oneCell']) (by unfold maxLen; omega) (by omega) (by simp; omega) ?_))
      intro A2 c2 w5 hcc1 hcc2 hrd2 hbel2 hown2 _ _
      have HO2 : Hid (w5.ownsRow (w.heap.size + 1) 29 9 (.slice A2 (k + 1) c2) (k + 1) (flat Ent.c (liveE (k + 1)))) := Lib.hid (by
        rw [HL.out, HE.out, flat_app]
        simpa [flat] using hown2)
      have HB2 := Lib.hid ((HB.out.alloc (by omega) _).trans hbel2)
      clear hown2 hrd2 hbel2
      go_wp2
      go_roundw
      case rel => exact ⟨k + 1, A2, c2, by omega, by go_num, rfl, HO2, HB2⟩
      case measure => simp [intOf]; omega
    · obtain rfl : k = 4 := by omega
      have HC := Lib.hid (choose_calls wr (c := c) (A := A) (l := liveE 4) 5 8 (Reads.of_own HO.out) (Nat.le_refl _) (by decide) (by omega) (by omega) (by decide))
      rw [live_choose] at HC
      go_wp2_with fail
      refine HC.out.mono ?_
      rintro e w1 ⟨A2, c2, rfl, hown, hb1⟩
      obtain ⟨b, off, rfl, hbB, hcell⟩ := Strs.cellAt (w := w1) (l := [⟨#[97]⟩, ⟨#[99]⟩]) (Reads.of_own hown) (by simp)
      have y0 : w1.cell? ⟨b, off, none⟩ = some (.string ⟨#[97]⟩) := hcell 0 (by decide)
      have y1 : w1.cell? ⟨b, off + 1, none⟩ = some (.string ⟨#[99]⟩) := hcell 1 (by decide)
      have hbe : Below w.heap.size w w1 := ((Below.refl w.heap.size w).alloc (Nat.le_refl _) _).trans ((HB.out.mono (Nat.le_succ _)).trans (hb1.mono (by omega)))
      have HBE := Lib.hid hbe
      clear hcell hown hbe hb1
      go_wp2
      go_ret
      exact ⟨rfl, HBE.out⟩
end Go.Proofs.Ytophfgijfmdbcaa
