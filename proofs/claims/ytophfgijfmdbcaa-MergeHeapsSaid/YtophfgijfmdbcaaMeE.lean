/- slices.IndexFunc at entries. -/
import Derived.Test.YtophfgijfmdbcaaProg
import Derived.Test.YtophfgijfmdbcaaMeD
namespace Go.Proofs.Ytophfgijfmdbcaa
open Go.RowKit Go.Proofs.Ytophfgijfmdbcaa.So

/-- The place of the first entry that has small rows at least, or the list's length. -/
def firstBig (small : Int) : List Ent → Nat
  | [] => 0
  | x :: r => if small ≤ x.rows then 0 else firstBig small r + 1
theorem firstBig_le (small : Int) : ∀ l : List Ent, firstBig small l ≤ l.length
  | [] => Nat.le_refl _
  | x :: r => by unfold firstBig; split; simp; have := firstBig_le small r; simp; omega
theorem firstBig_eq {small : Int} : ∀ {l : List Ent} {k : Nat}, k < l.length → (∀ i, i < k → ¬ small ≤ (gt l i).rows) → small ≤ (gt l k).rows → firstBig small l = k
  | [], k, hk, _, _ => absurd hk (by simp)
  | x :: r, 0, _, _, h => by unfold firstBig; exact if_pos h
  | x :: r, k + 1, hk, h1, h2 => by
    unfold firstBig
    rw [if_neg (show ¬ small ≤ x.rows from h1 0 (by omega)), firstBig_eq (l := r) (k := k) (by simpa using hk) (fun i hi => h1 (i + 1) (by omega)) h2]
theorem firstBig_none {small : Int} : ∀ {l : List Ent}, (∀ i, i < l.length → ¬ small ≤ (gt l i).rows) → firstBig small l = l.length
  | [], _ => rfl
  | x :: r, h => by
    unfold firstBig
    rw [if_neg (show ¬ small ≤ x.rows from h 0 (by simp)), firstBig_none (l := r) (fun i hi => h (i + 1) (by simpa using hi))]
    rfl
def ixBig (small : Int) (l : List Ent) : Int := if firstBig small l = l.length then -1 else (firstBig small l : Int)

set_option maxRecDepth 100000 in
set_option maxHeartbeats 1600000 in
theorem indexE_calls (w : World) {B c b : Nat} {A : Option Addr} {l : List Ent} (small : Int) (h : Ents w B A l) (hB : B ≤ w.heap.size) (hb : w.cell? ⟨b, 0, none⟩ = some (.int .i64 small)) (hn : l.length ≤ 1099511627776) :
    Calls Try.prog 44 #[.slice A l.length c, .func (.func 29) #[] #[.pointer (some ⟨b, 0, none⟩)]] w fun e w' => e = .returned (.int .i64 (ixBig small l)) ∧ Below w.heap.size w w' := by
  have eg : ∀ args w, (callFunc 29 args).run Try.prog w = .ok (.enter 29 args) w := enters_of Try.func29 (by kernel_rfl) rfl
  have hblt := World.block_lt_of_cell? w _ hb
  have HB := Lib.hid hb
  clear hb
  go_enter Try.func44, Try.ntmps44
  go_wp2
  go_loopw [8] (fun i wr => ∃ k : Nat, k ≤ l.length ∧ i = .int .i64 (k : Int) ∧ Hid (∀ j, j < k → (gt l j).rows < small) ∧ Below w.heap.size w wr) (fun i _ => l.length - (intOf i).toNat)
  case atStart => exact ⟨0, Nat.zero_le _, rfl, Lib.hid fun j hj => absurd hj (by omega), Below.refl _ _⟩
  case round =>
    obtain ⟨k, hk, rfl, HF, hbel⟩ := hrel
    by_cases hlt : k < l.length
    · obtain ⟨bl, off, rfl, hbB, hcell⟩ := Ents.cellAt (Reads.below h (hbel.mono hB)) (show 0 < l.length by omega)
      have hc := hcell k hlt
      have c0 := hc 0 (by omega)
      have c1 := hc 1 (by omega)
      have c2 := hc 2 (by omega)
      have c3 := hc 3 (by omega)
      have c4 := hc 4 (by omega)
      have c5 := hc 5 (by omega)
      have c6 := hc 6 (by omega)
      have c7 := hc 7 (by omega)
      have c8 := hc 8 (by omega)
      have HY := Lib.hid (fun (hy : small ≤ (gt l k).rows) => firstBig_eq hlt (fun i hi => by have := HF.out i hi; omega) hy)
      have HNx : Hid ((gt l k).rows < small → ∀ j, j < k + 1 → (gt l j).rows < small) := Lib.hid fun hy j hj => by
        rcases Nat.lt_or_ge j k with h1 | h1
        · exact HF.out j h1
        · obtain rfl : j = k := by omega
          exact hy
      generalize gt l k = x at *
      have hbw : wr.cell? ⟨b, 0, none⟩ = some (.int .i64 small) := by rw [hbel.cell (p := ⟨b, 0, none⟩) hblt]; exact HB.out
      have hT := tooBig_calls x small b wr hbw
      simp only [Ent.c, Nat.add_zero] at c0 c1 c2 c3 c4 c5 c6 c7 c8
      clear hcell hc hbw
      have hsz := hbel.size
      by_cases hy : small ≤ x.rows
      · have HV : Hid (ixBig small l = (k : Int)) := Lib.hid (by unfold ixBig; rw [HY.out hy, if_neg (by omega)])
        rw [dct hy] at hT
        have HT := Lib.hid hT
        clear hT hy
        go_wp2_with (go_at_fn 29; refine HT.out.mono ?_; rintro e w1 ⟨rfl, hb1⟩)
        go_ret
        exact ⟨by rw [HV.out]; rfl, hbel.trans (hb1.mono hsz)⟩
      · have HF2 := Lib.hid (HNx.out (by omega))
        rw [dcf hy] at hT
        have HT := Lib.hid hT
        clear hT hy
        go_wp2_with (go_at_fn 29; refine HT.out.mono ?_; rintro e w1 ⟨rfl, hb1⟩)
        go_roundw
        case rel => exact ⟨k + 1, by omega, by go_num, HF2, hbel.trans (hb1.mono hsz)⟩
        case measure => simp [intOf]; omega
    · obtain rfl : k = l.length := by omega
      have HV : Hid (ixBig small l = -1) := Lib.hid (by unfold ixBig; rw [firstBig_none (fun i hi => by have := HF.out i hi; omega), if_pos rfl])
      go_wp2
      go_ret
      exact ⟨by rw [HV.out]; rfl, hbel⟩
end Go.Proofs.Ytophfgijfmdbcaa
