/- The comparison of entries is a strict weak order (plain law). Lists of entries; slices.Clone, the test of DeleteFunc, slices.IndexFunc at entries. slices.IndexFunc at entries. -/
import Derived.Test.YtophfgijfmdbcaaProg
import Derived.Test.YtophfgijfmdbcaaMeB
import Derived.Test.YtophfgijfmdbcaaRwM
import Derived.Lib.SliceRun

namespace Go.Proofs.Ytophfgijfmdbcaa
open Go.RowKit Go.Proofs.Ytophfgijfmdbcaa.So

theorem cmpS_le {x y : ByteArray} : cmpS x y ≤ 0 ↔ ¬ (y.toList < x.toList) := by
  unfold cmpS lessS
  simp only [bytesLess_eq, decide_eq_true_eq]
  by_cases h1 : x.toList < y.toList
  · rw [if_pos h1]
    exact ⟨fun _ h2 => List.lt_irrefl _ (List.lt_trans h1 h2), fun _ => by omega⟩
  · rw [if_neg h1]
    by_cases h2 : y.toList < x.toList
    · rw [if_pos h2]
      exact ⟨fun h => by omega, fun h => absurd h2 h⟩
    · rw [if_neg h2]
      exact ⟨fun _ => h2, fun _ => by omega⟩
theorem triS : Tri cmpS where
  anti x y := by
    unfold cmpS lessS
    simp only [bytesLess_eq, decide_eq_true_eq]
    by_cases h1 : x.toList < y.toList
    · have h2 : ¬ y.toList < x.toList := fun h2 => List.lt_irrefl _ (List.lt_trans h1 h2)
      rw [if_pos h1, if_neg h2, if_pos h1]
      rfl
    · rw [if_neg h1]
      by_cases h2 : y.toList < x.toList
      · rw [if_pos h2, if_neg h1, if_pos h2]
      · rw [if_neg h2, if_neg h2, if_neg h1]; rfl
  tr x y z h1 h2 := by
    rw [cmpS_le] at *
    rw [List.not_lt] at *
    exact List.le_trans h1 h2
theorem triE : Tri cfE := by
  have h : Tri fun x y : Ent => if cmpI x.window y.window = 0 then (if cmpS x.part y.part = 0 then (if cmpI x.born y.born = 0 then cmpS x.key y.key else cmpI x.born y.born) else cmpS x.part y.part) else cmpI x.window y.window :=
    (triI.on Ent.window).lex ((triS.on Ent.part).lex ((triI.on Ent.born).lex (triS.on Ent.key)))
  have e : cfE = fun x y : Ent => if cmpI x.window y.window = 0 then (if cmpS x.part y.part = 0 then (if cmpI x.born y.born = 0 then cmpS x.key y.key else cmpI x.born y.born) else cmpS x.part y.part) else cmpI x.window y.window := by
    funext x y
    exact orI4 _ _ _ _
  rw [e]
  exact h
theorem swoE : Swo (ltc cfE) := triE.swo fun _ _ => rfl

set_option maxRecDepth 100000 in
/-- The sort of Choose. -/
theorem sortE_calls (N : Nat) (base g cap : Nat) (w : World) (D0 : List Ent) (h : RowE Ent.c w base g cap D0) (hN : D0.length = N) (hd : N ≤ 1099511627776) :
    Calls Try.prog 30 #[.slice (some ⟨g, 0, none⟩) N cap, .func (.func 31) #[] #[]] w fun e w' =>
      e = .returned (.tuple #[]) ∧ RowE Ent.c w' base g cap (isort (ltc cfE) D0) ∧ Only g w w' :=
  sortStable_calls Ent.c Ent.one cfE 31 cmpE_calls (enters_of Try.func31 (by kernel_rfl) rfl) swoE N base g cap w D0 h hN hd
end Go.Proofs.Ytophfgijfmdbcaa

namespace Go.Proofs.Ytophfgijfmdbcaa
open Go.RowKit Go.Proofs.Ytophfgijfmdbcaa.So

theorem Try.infoEnt : (Try.prog.info? 29).map (fun i => (i.zero, i.size, i.bytes)) = some (some (.agg #[.string ⟨#[]⟩, .int .i64 0, .string ⟨#[]⟩, .int .i64 0, .int .i64 0, .int .i64 0, .int .i64 0, .int .u32 0, .int .i64 0]), 9, 88) := by kernel_rfl
/-- A slice of entries reads. -/
def Ents (w : World) (B : Nat) (A : Option Addr) (l : List Ent) : Prop := Reads w B 9 A l.length (flat Ent.c l)
theorem flat_one (l : List Ent) : ∀ u ∈ flat Ent.c l, u.oneCell' = true := by
  intro u hu
  simp only [flat, List.mem_flatMap] at hu
  obtain ⟨x, _, hx⟩ := hu
  simp [nine] at hx
  rcases hx with rfl | rfl | rfl | rfl | rfl | rfl | rfl | rfl | rfl <;> exact Ent.one x _
theorem Ents.cellAt {w : World} {B : Nat} {A : Option Addr} {l : List Ent} (h : Ents w B A l) (hp : 0 < l.length) : ∃ b off, A = some ⟨b, off, none⟩ ∧ b < B ∧ ∀ i, i < l.length → ∀ j, j < 9 → w.cell? ⟨b, off + i * 9 + j, none⟩ = some (Ent.c (gt l i) j) := by
  obtain ⟨b, off, e, hb, hc⟩ := h.2 hp
  exact ⟨b, off, e, hb, fun i hi j hj => by rw [Nat.add_assoc]; exact hc _ _ (flat_get Ent.c l i j hi hj)⟩

set_option maxRecDepth 100000 in
theorem cloneE_calls (w : World) {B c : Nat} {A : Option Addr} {l : List Ent} (h : Ents w B A l) (hB : B ≤ w.heap.size) (hn : l.length ≤ 1099511627776) :
    Calls Try.prog 28 #[.slice A l.length c] w fun e w' => ∃ A' c', e = .returned (.slice A' l.length c') ∧ w'.ownsRow w.heap.size 29 9 (.slice A' l.length c') l.length (flat Ent.c l) ∧ Below w.heap.size w w' := by
  have hq := fun W => Lib.run_eql_slice_nil (P := Try.prog) W 22 29 A l.length c 0 0 Try.underlying22
  rcases A with _ | ad
  · have hl : l = [] := by
      rcases Nat.eq_zero_or_pos l.length with h0 | h0
      · exact List.eq_nil_of_length_eq_zero h0
      · obtain ⟨b, off, e, _⟩ := h.2 h0
        cases e
    have HL := Lib.hid hl
    clear hl
    have hq2 : ∀ W, (binOp .eql 22 (.slice none l.length c) (.slice none 0 0)).run Try.prog W = .ok (.bool true) W := fun W => by rw [hq]; rfl
    clear hq
    go_enter Try.func28, Try.ntmps28
    go_wp2
    go_ret
    exact ⟨none, 0, by rw [HL.out]; rfl, by rw [HL.out]; exact World.ownsRow_nil _ _ _ _, Below.refl _ _⟩
  · have hq2 : ∀ W, (binOp .eql 22 (.slice (some ad) l.length c) (.slice none 0 0)).run Try.prog W = .ok (.bool false) W := fun W => by rw [hq]; rfl
    clear hq
    go_enter Try.func28, Try.ntmps28
    go_wp2_with (at_builtin; go_must (refine wpList_append_sl _ rfl (.tmp 5) (.tmp 6) _ rfl w.heap.size 29 _ 9 88 Try.underlying22 Try.infoEnt rfl (by omega) _ _ _ rfl (World.ownsRow_made w #[] 0 (Nat.le_refl _) (Nat.zero_le _) rfl) B (some ad) l.length c (flat Ent.c l) rfl (Reads.to h ((Below.refl B w).alloc hB _) (Nat.le_refl _)) (flat_one l) (by unfold maxLen; omega) (by omega) (by simp) ?_))
    intro A' c' w1 hc1 hc2 hrd hbel hown _ _
    have hown2 : w1.ownsRow w.heap.size 29 9 (.slice A' l.length c') l.length (flat Ent.c l) := by simpa using hown
    go_wp2
    go_ret
    exact ⟨A', c', by simp, hown2, ((Below.refl _ _).alloc (Nat.le_refl _) _).trans hbel⟩

/-- The test: has an entry small rows at least? The captured box holds small. -/
theorem tooBig_calls (x : Ent) (small : Int) (b : Nat) (w : World) (hb : w.cell? ⟨b, 0, none⟩ = some (.int .i64 small)) :
    Calls Try.prog 29 #[.agg (nine Ent.c x).toArray, .pointer (some ⟨b, 0, none⟩)] w fun e w' => e = .returned (.bool (decide (small ≤ x.rows))) ∧ Below w.heap.size w w' := by
  have hlt := World.block_lt_of_cell? w _ hb
  show Calls Try.prog 29 #[.agg #[.string x.key, .int .i64 x.window, .string x.part, .int .i64 x.first, .int .i64 x.last, .int .i64 x.rows, .int .i64 x.size, .int .u32 x.sum, .int .i64 x.born], .pointer (some ⟨b, 0, none⟩)] w _
  go_enter Try.func29, Try.ntmps29
  go_wp2
  go_ret
  exact ⟨rfl, (Below.refl _ _).alloc (Nat.le_refl _) _⟩
end Go.Proofs.Ytophfgijfmdbcaa

namespace Go.Proofs.Ytophfgijfmdbcaa
open Go.RowKit Go.Proofs.Ytophfgijfmdbcaa.So

/-- The place of the first entry that has small rows at least, or the list's length. -/
def firstBig (small : Int) : List Ent → Nat
  | [] => 0
  | x :: r => if small ≤ x.rows then 0 else firstBig small r + 1
theorem firstBig_le (small : Int) : ∀ l : List Ent, firstBig small l ≤ l.length
  | [] => Nat.le_refl _
  | x :: r => by unfold firstBig; split; simp; have := firstBig_le small r; simp; omega
theorem firstBig_eq {small : Int} : ∀ {l : List Ent} {k : Nat}, k < l.length → (∀ i, i < k → ¬ small ≤ (gt l i).rows) → small ≤ (gt l k).rows → firstBig small l = k
  | [], k, hk, _, _ => absurd hk (by simp)
  | x :: r, 0, _, _, h => by unfold firstBig; exact if_pos h
  | x :: r, k + 1, hk, h1, h2 => by
    unfold firstBig
    rw [if_neg (show ¬ small ≤ x.rows from h1 0 (by omega)), firstBig_eq (l := r) (k := k) (by simpa using hk) (fun i hi => h1 (i + 1) (by omega)) h2]
theorem firstBig_none {small : Int} : ∀ {l : List Ent}, (∀ i, i < l.length → ¬ small ≤ (gt l i).rows) → firstBig small l = l.length
  | [], _ => rfl
  | x :: r, h => by
    unfold firstBig
    rw [if_neg (show ¬ small ≤ x.rows from h 0 (by simp)), firstBig_none (l := r) (fun i hi => h (i + 1) (by simpa using hi))]
    rfl
def ixBig (small : Int) (l : List Ent) : Int := if firstBig small l = l.length then -1 else (firstBig small l : Int)

set_option maxRecDepth 100000 in
set_option maxHeartbeats 1600000 in
theorem indexE_calls (w : World) {B c b : Nat} {A : Option Addr} {l : List Ent} (small : Int) (h : Ents w B A l) (hB : B ≤ w.heap.size) (hb : w.cell? ⟨b, 0, none⟩ = some (.int .i64 small)) (hn : l.length ≤ 1099511627776) :
    Calls Try.prog 44 #[.slice A l.length c, .func (.func 29) #[] #[.pointer (some ⟨b, 0, none⟩)]] w fun e w' => e = .returned (.int .i64 (ixBig small l)) ∧ Below w.heap.size w w' := by
  have eg : ∀ args w, (callFunc 29 args).run Try.prog w = .ok (.enter 29 args) w := enters_of Try.func29 (by kernel_rfl) rfl
  have hblt := World.block_lt_of_cell? w _ hb
  have HB := Lib.hid hb
  clear hb
  go_enter Try.func44, Try.ntmps44
  go_wp2
  go_loopw [8] (fun i wr => ∃ k : Nat, k ≤ l.length ∧ i = .int .i64 (k : Int) ∧ Hid (∀ j, j < k → (gt l j).rows < small) ∧ Below w.heap.size w wr) (fun i _ => l.length - (intOf i).toNat)
  case atStart => exact ⟨0, Nat.zero_le _, rfl, Lib.hid fun j hj => absurd hj (by omega), Below.refl _ _⟩
  case round =>
    obtain ⟨k, hk, rfl, HF, hbel⟩ := hrel
    by_cases hlt : k < l.length
    · obtain ⟨bl, off, rfl, hbB, hcell⟩ := Ents.cellAt (Reads.below h (hbel.mono hB)) (show 0 < l.length by omega)
      have hc := hcell k hlt
      have c0 := hc 0 (by omega)
      have c1 := hc 1 (by omega)
      have c2 := hc 2 (by omega)
      have c3 := hc 3 (by omega)
      have c4 := hc 4 (by omega)
      have c5 := hc 5 (by omega)
      have c6 := hc 6 (by omega)
      have c7 := hc 7 (by omega)
      have c8 := hc 8 (by omega)
      have HY := Lib.hid (fun (hy : small ≤ (gt l k).rows) => firstBig_eq hlt (fun i hi => by have := HF.out i hi; omega) hy)
      have HNx : Hid ((gt l k).rows < small → ∀ j, j < k + 1 → (gt l j).rows < small) := Lib.hid fun hy j hj => by
        rcases Nat.lt_or_ge j k with h1 | h1
        · exact HF.out j h1
        · obtain rfl : j = k := by omega
          exact hy
      generalize gt l k = x at *
      have hbw : wr.cell? ⟨b, 0, none⟩ = some (.int .i64 small) := by rw [hbel.cell (p := ⟨b, 0, none⟩) hblt]; exact HB.out
      have hT := tooBig_calls x small b wr hbw
      simp only [Ent.c, Nat.add_zero] at c0 c1 c2 c3 c4 c5 c6 c7 c8
      clear hcell hc hbw
      have hsz := hbel.size
      by_cases hy : small ≤ x.rows
      · have HV : Hid (ixBig small l = (k : Int)) := Lib.hid (by unfold ixBig; rw [HY.out hy, if_neg (by omega)])
        rw [dct hy] at hT
        have HT := Lib.hid hT
        clear hT hy
        go_wp2_with (go_at_fn 29; refine HT.out.mono ?_; rintro e w1 ⟨rfl, hb1⟩)
        go_ret
        exact ⟨by rw [HV.out]; rfl, hbel.trans (hb1.mono hsz)⟩
      · have HF2 := Lib.hid (HNx.out (by omega))
        rw [dcf hy] at hT
        have HT := Lib.hid hT
        clear hT hy
        go_wp2_with (go_at_fn 29; refine HT.out.mono ?_; rintro e w1 ⟨rfl, hb1⟩)
        go_roundw
        case rel => exact ⟨k + 1, by omega, by go_num, HF2, hbel.trans (hb1.mono hsz)⟩
        case measure => simp [intOf]; omega
    · obtain rfl : k = l.length := by omega
      have HV : Hid (ixBig small l = -1) := Lib.hid (by unfold ixBig; rw [firstBig_none (fun i hi => by have := HF.out i hi; omega), if_pos rfl])
      go_wp2
      go_ret
      exact ⟨by rw [HV.out]; rfl, hbel⟩
end Go.Proofs.Ytophfgijfmdbcaa
