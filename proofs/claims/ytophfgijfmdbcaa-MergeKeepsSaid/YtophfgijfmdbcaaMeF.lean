/- slices.DeleteFunc at entries. -/
import Derived.Test.YtophfgijfmdbcaaProg
import Derived.Test.YtophfgijfmdbcaaMeN
import Derived.Deep.MidRow
namespace Go.Proofs.Ytophfgijfmdbcaa
open Go.RowKit Go.Proofs.Ytophfgijfmdbcaa.So

/-- The small ones. -/
def smalls (small : Int) (l : List Ent) : List Ent := l.filter fun x => decide (x.rows < small)
theorem smalls_app (small : Int) (l m : List Ent) : smalls small (l ++ m) = smalls small l ++ smalls small m := by simp [smalls]
theorem smalls_all {small : Int} {l : List Ent} (h : ∀ i, i < l.length → (gt l i).rows < small) : smalls small l = l := by
  unfold smalls
  rw [List.filter_eq_self]
  intro x hx
  obtain ⟨i, hi, rfl⟩ := List.getElem_of_mem hx
  rw [gt_eq hi]
  exact decide_eq_true (h i hi)
theorem firstBig_lt (small : Int) : ∀ (l : List Ent) (i : Nat), i < firstBig small l → (gt l i).rows < small
  | [], i, h => absurd h (by simp [firstBig])
  | x :: r, i, h => by
    unfold firstBig at h
    split at h
    · omega
    · rename_i hx
      cases i with
      | zero => show x.rows < small; omega
      | succ i => exact firstBig_lt small r i (by omega)

theorem lt_alloc (w : World) (o : Obj) : w.heap.size < (w.alloc o).heap.size := by simp
def zE : Value := .agg #[.string ⟨#[]⟩, .int .i64 0, .string ⟨#[]⟩, .int .i64 0, .int .i64 0, .int .i64 0, .int .i64 0, .int .u32 0, .int .i64 0]
def zs (n : Nat) : List Value := (Builtin.zeroCells zE.cells n).toList
theorem zs_len (n : Nat) : (zs n).length = n * 9 := by simp [zs, Builtin.zeroCells]; rfl
theorem zE_one (i : Nat) (h : i < 9) : (zE.cells[i]!).oneCell' = true := by
  have : i = 0 ∨ i = 1 ∨ i = 2 ∨ i = 3 ∨ i = 4 ∨ i = 5 ∨ i = 6 ∨ i = 7 ∨ i = 8 := by omega
  rcases this with rfl | rfl | rfl | rfl | rfl | rfl | rfl | rfl | rfl <;> rfl
theorem zs_one (n : Nat) : ∀ v ∈ zs n, v.oneCell' = true := by
  intro v hv
  simp only [zs, Builtin.zeroCells, Array.toList_map, List.mem_map, Array.toList_range, List.mem_range] at hv
  obtain ⟨i, _, rfl⟩ := hv
  exact zE_one _ (Nat.mod_lt _ (by decide))
theorem Try.zeroEnt (w : World) : (zeroValue 29).run Try.prog w = .ok zE w := by
  obtain ⟨i, hi, hz, _, _⟩ := info_parts Try.infoEnt
  simp [zeroValue, typeInfo, hi, hz]
  rfl
theorem run_clear_nine (w : World) (b o n c : Nat) (hn : 0 < n) (hc : ∀ j, j < n * 9 → (w.cell? ⟨b, o + j, none⟩).isSome = true) (hf : ∀ j, j < n * 9 → w.frozen? ⟨b, o + j, none⟩ = false) (ty : TypeId) :
    (Builtin.clear_ #[22] ty #[.slice (some ⟨b, o, none⟩) n c]).run Try.prog w = .ok (.tuple #[]) (w.setCells b o (zs n)) := by
  have hst := run_storeCells_cells (P := Try.prog) b o (zs n) 0 w (by rw [zs_len]; simpa using hc) (by rw [zs_len]; simpa using hf) (zs_one n)
  simp only [Nat.add_zero] at hst
  obtain ⟨m, rfl⟩ : ∃ m, n = m + 1 := ⟨n - 1, by omega⟩
  simp only [zs] at hst ⊢
  have hz := Try.zeroEnt
  generalize zE = z at *
  simp [Builtin.clear_, run_underlying Try.underlying22, hz, hst]
/-- A part of a row, from its beginning. -/
theorem RowE.prefix_ {α : Type} {c : α → Nat → Value} {w : World} {base g cap n k : Nat} {xs : List Value} {d : List α} (h : w.ownsRow base 29 9 (.slice (some ⟨g, 0, none⟩) n cap) n xs) (hk : k ≤ n) (hd : d.length = k) (hx : xs.take (k * 9) = flat c d) : RowE c w base g cap d := by
  unfold RowE
  rw [hd]
  refine ⟨by rw [flat_len, hd], .inr ?_⟩
  rcases h.2 with ⟨h', _⟩ | ⟨g', cap', cur, h', hb, hg, hnc, hcm, hcs, htake⟩
  · cases h'
  · injection h' with e1 _ e2
    injection e1 with e1
    injection e1 with e1
    subst e1 e2
    refine ⟨g, cap, cur, rfl, hb, hg, by omega, hcm, hcs, ?_⟩
    rw [← hx, ← htake, List.take_take, Nat.min_eq_left (Nat.mul_le_mul_right _ hk)]
theorem RowE.cleared {c : Ent → Nat → Value} {w : World} {base g cap : Nat} {d : List Ent} (h : RowE c w base g cap d) {k : Nat} (hk : k ≤ d.length) : RowE c (w.setCells g (k * 9) (zs (d.length - k))) base g cap (d.take k) ∧ Only g w (w.setCells g (k * 9) (zs (d.length - k))) := by
  obtain ⟨h1, h2⟩ := own_sets (xs := flat c d) (zs (d.length - k)) (k * 9) w _ h
  refine ⟨RowE.prefix_ h1 hk (by rw [List.length_take]; omega) ?_, h2⟩
  rw [setsAt_eq _ _ _ (by rw [zs_len, flat_len, ← Nat.add_mul]; exact Nat.mul_le_mul_right _ (by omega)), List.append_assoc]
  have hl : ((flat c d).take (k * 9)).length = k * 9 := by rw [List.length_take, flat_len]; have := Nat.mul_le_mul_right 9 hk; omega
  rw [List.take_left' hl]
  have e : flat c d = flat c (d.take k) ++ flat c (d.drop k) := by rw [← flat_app, List.take_append_drop]
  rw [e, List.take_left' (by rw [flat_len, List.length_take, Nat.min_eq_left hk])]

/-- How far the deleting is: the small ones of the first j stand at the row's beginning, the others are as they were. -/
structure Moved (small : Int) (l d : List Ent) (i j : Nat) : Prop where
  len : d.length = l.length
  lt : i < j
  le : j ≤ l.length
  hd : d.take i = smalls small (l.take j)
  tl : d.drop j = l.drop j
theorem take_snoc {l : List Ent} {j : Nat} (h : j < l.length) : l.take (j + 1) = l.take j ++ [gt l j] := by
  rw [List.take_add_one, List.getElem?_eq_getElem h, gt_eq h]; rfl
section
variable {small : Int} {l d : List Ent} {i j : Nat}
theorem Moved.at_ (h : Moved small l d i j) (hj : j < l.length) : gt d j = gt l j := by
  have := congrArg (fun t => t[0]?) h.tl
  simp only [List.getElem?_drop, Nat.add_zero] at this
  unfold gt
  rw [List.getD_eq_getElem?_getD, List.getD_eq_getElem?_getD, this]
theorem drop_eq_succ {α : Type} {a b : List α} {j : Nat} (h : a.drop j = b.drop j) : a.drop (j + 1) = b.drop (j + 1) := by
  rw [← List.drop_drop, ← List.drop_drop, h]
theorem Moved.keep (h : Moved small l d i j) (hj : j < l.length) (hs : (gt l j).rows < small) : Moved small l (d.set i (gt l j)) (i + 1) (j + 1) := by
  have h1 := h.len
  have h2 := h.lt
  refine ⟨by rw [List.length_set]; exact h1, by omega, hj, ?_, ?_⟩
  · rw [List.take_add_one, List.take_set_of_le (Nat.le_refl _), List.getElem?_set_self (by omega), h.hd, take_snoc hj, smalls_app]
    have : smalls small [gt l j] = [gt l j] := by simp [smalls, hs]
    rw [this]
    rfl
  · rw [List.drop_set_of_lt (by omega)]
    exact drop_eq_succ h.tl
theorem Moved.skip (h : Moved small l d i j) (hj : j < l.length) (hs : ¬ (gt l j).rows < small) : Moved small l d i (j + 1) := by
  have h2 := h.lt
  refine ⟨h.len, by omega, hj, ?_, drop_eq_succ h.tl⟩
  rw [h.hd, take_snoc hj, smalls_app]
  have : smalls small [gt l j] = [] := by simp [smalls]; omega
  rw [this, List.append_nil]
theorem Moved.init (h : firstBig small l < l.length) : Moved small l l (firstBig small l) (firstBig small l + 1) := by
  refine ⟨rfl, by omega, h, ?_, rfl⟩
  rw [take_snoc h, smalls_app]
  have e1 : smalls small (l.take (firstBig small l)) = l.take (firstBig small l) := smalls_all fun i hi => by
    rw [List.length_take] at hi
    have hi2 : i < firstBig small l := by omega
    have : gt (l.take (firstBig small l)) i = gt l i := by
      unfold gt
      rw [List.getD_eq_getElem?_getD, List.getD_eq_getElem?_getD, List.getElem?_take, if_pos hi2]
    rw [this]
    exact firstBig_lt small l i hi2
  have e2 : smalls small [gt l (firstBig small l)] = [] := by
    have : small ≤ (gt l (firstBig small l)).rows := by
      clear e1
      induction l with
      | nil => exact absurd h (by simp)
      | cons x r ih =>
        unfold firstBig at h ⊢
        split
        · assumption
        · rename_i hx
          rw [if_neg hx] at h
          exact ih (by simpa using h)
    simp [smalls]; omega
  rw [e1, e2, List.append_nil]
theorem Moved.done (h : Moved small l d i l.length) : d.take i = smalls small l := by
  rw [h.hd, List.take_length]
end

set_option maxRecDepth 100000 in
set_option maxHeartbeats 3200000 in
theorem deleteE_calls (w : World) {base g cap b : Nat} {l : List Ent} (small : Int) (h : RowE Ent.c w base g cap l) (hb : w.cell? ⟨b, 0, none⟩ = some (.int .i64 small)) (hbg : b ≠ g) (hn : l.length ≤ 1099511627776) (hcap : l.length ≤ cap) :
    Calls Try.prog 27 #[.slice (some ⟨g, 0, none⟩) l.length cap, .func (.func 29) #[] #[.pointer (some ⟨b, 0, none⟩)]] w fun e w' =>
      e = .returned (.slice (some ⟨g, 0, none⟩) (smalls small l).length cap) ∧ RowE Ent.c w' base g cap (smalls small l) ∧ Only g w w' := by
  have eg : ∀ args w, (callFunc 29 args).run Try.prog w = .ok (.enter 29 args) w := enters_of Try.func29 (by kernel_rfl) rfl
  have hblt := World.block_lt_of_cell? w _ hb
  have hrd : Ents w w.heap.size (some ⟨g, 0, none⟩) l := Reads.of_own h
  have HI := Lib.hid (indexE_calls w (c := cap) small hrd (Nat.le_refl _) hb hn)
  have HR := Lib.hid h
  have HB := Lib.hid hb
  have hgl := h.lt
  clear hrd h hb
  by_cases hall : firstBig small l = l.length
  · have hi : ixBig small l = -1 := by unfold ixBig; rw [if_pos hall]
    have HS : Hid (smalls small l = l) := Lib.hid (smalls_all fun i hi => firstBig_lt small l i (by omega))
    rw [hi] at HI
    clear hall hi
    go_enter Try.func27, Try.ntmps27
    go_wp2_with fail
    refine HI.out.mono ?_
    rintro e w1 ⟨rfl, hb1⟩
    go_wp2
    go_ret
    exact ⟨by rw [HS.out]; rfl, by rw [HS.out]; exact HR.out.below hb1, Only.of_below hb1⟩
  · have hlt : firstBig small l < l.length := by have := firstBig_le small l; omega
    have hi : ixBig small l = ((firstBig small l : Nat) : Int) := by unfold ixBig; rw [if_neg hall]
    rw [hi] at HI
    have HM := Lib.hid (Moved.init hlt)
    generalize firstBig small l = k0 at *
    clear hall hi
    obtain ⟨n, hnl⟩ : ∃ n, n = l.length := ⟨_, rfl⟩
    have HN := Lib.hid hnl
    rw [← hnl] at HI hcap hn hlt ⊢
    clear hnl
    have hk : ((k0 : Int) == (-1 : Int)) = false := eqf (by omega)
    go_enter Try.func27, Try.ntmps27
    go_wp2_with fail
    refine HI.out.mono ?_
    rintro e w1 ⟨rfl, hb1⟩
    have hs1 := hb1.size
    go_wp2
    go_loopw [5, 6] (fun vi vj wr => ∃ i j : Nat, vi = .int .i64 (i : Int) ∧ vj = .int .i64 (j : Int) ∧ i < j ∧ j ≤ n ∧ Hid (∃ d, Moved small l d i j ∧ RowE Ent.c wr base g cap d) ∧ Only g w wr) (fun _ vj _ => n - (intOf vj).toNat)
    case atStart => exact ⟨k0, k0 + 1, rfl, by go_num, by omega, by omega, Lib.hid ⟨l, HM.out, HR.out.below hb1⟩, Only.of_below hb1⟩
    case round =>
      obtain ⟨i, j, rfl, rfl, hij, hjn, HD, honly⟩ := hrel
      have HD1 := Lib.hid HD.out.choose_spec
      generalize HD.out.choose = d at *
      clear HD
      have hsz := honly.size
      have hdn : d.length = n := by rw [HN.out]; exact HD1.out.1.len
      by_cases hlt : j < n
      · have hbw : wr.cell? ⟨b, 0, none⟩ = some (.int .i64 small) := by rw [World.cell?_of_block (honly.block b hblt (fun e => hbg (by injection e)))]; exact HB.out
        have hc := fun q (hq : q < 9) => HD1.out.2.cell (i := j) (by omega) hq
        have hx : gt d j = gt l j := HD1.out.1.at_ (by rw [← HN.out]; exact hlt)
        rw [hx] at hc
        have c0 := hc 0 (by omega)
        have c1 := hc 1 (by omega)
        have c2 := hc 2 (by omega)
        have c3 := hc 3 (by omega)
        have c4 := hc 4 (by omega)
        have c5 := hc 5 (by omega)
        have c6 := hc 6 (by omega)
        have c7 := hc 7 (by omega)
        have c8 := hc 8 (by omega)
        have HK := Lib.hid fun hy => HD1.out.1.keep (by rw [← HN.out]; exact hlt) hy
        have HS := Lib.hid fun hy => HD1.out.1.skip (by rw [← HN.out]; exact hlt) hy
        generalize gt l j = x at *
        have hT := fun W hW => tooBig_calls x small b W hW
        simp only [Ent.c, Nat.add_zero] at c0 c1 c2 c3 c4 c5 c6 c7 c8
        have HBW := Lib.hid hbw
        clear hc hbw hx
        have hgl2 : g < wr.heap.size := by omega
        by_cases hy : x.rows < small
        · rw [dcf (show ¬ small ≤ x.rows by omega)] at hT
          have HT := Lib.hid hT
          have HK1 := Lib.hid (HK.out hy)
          clear hT hy HK HS
          go_wp2_with fail
          refine (HT.out _ (by rw [World.cell?_alloc_lt _ _ _ (by show b < _; omega)]; exact HBW.out)).mono ?_
          rintro e w2 ⟨rfl, hb2⟩
          have hs2 := hb2.size
          have hB2 := (Blk.new wr 29 #[.string x.key, .int .i64 x.window, .string x.part, .int .i64 x.first, .int .i64 x.last, .int .i64 x.rows, .int .i64 x.size, .int .u32 x.sum, .int .i64 x.born]).below hb2 (lt_alloc _ _)
          have v0 : w2.cell? ⟨wr.heap.size, 0, none⟩ = some (.string x.key) := (hB2.cell 0).trans rfl
          have v1 : w2.cell? ⟨wr.heap.size, 1, none⟩ = some (.int .i64 x.window) := (hB2.cell 1).trans rfl
          have v2 : w2.cell? ⟨wr.heap.size, 2, none⟩ = some (.string x.part) := (hB2.cell 2).trans rfl
          have v3 : w2.cell? ⟨wr.heap.size, 3, none⟩ = some (.int .i64 x.first) := (hB2.cell 3).trans rfl
          have v4 : w2.cell? ⟨wr.heap.size, 4, none⟩ = some (.int .i64 x.last) := (hB2.cell 4).trans rfl
          have v5 : w2.cell? ⟨wr.heap.size, 5, none⟩ = some (.int .i64 x.rows) := (hB2.cell 5).trans rfl
          have v6 : w2.cell? ⟨wr.heap.size, 6, none⟩ = some (.int .i64 x.size) := (hB2.cell 6).trans rfl
          have v7 : w2.cell? ⟨wr.heap.size, 7, none⟩ = some (.int .u32 x.sum) := (hB2.cell 7).trans rfl
          have v8 : w2.cell? ⟨wr.heap.size, 8, none⟩ = some (.int .i64 x.born) := (hB2.cell 8).trans rfl
          have hrw : RowE Ent.c w2 base g cap d := RowE.below HD1.out.2 (((Below.refl _ wr).alloc (Nat.le_refl _) _).trans (hb2.mono (Nat.le_of_lt (lt_alloc _ _))))
          have t0 := hrw.cell (i := i) (j := 0) (by omega) (by omega)
          have f0 := hrw.frozen (i * 9 + 0)
          have t1 := hrw.cell (i := i) (j := 1) (by omega) (by omega)
          have f1 := hrw.frozen (i * 9 + 1)
          have t2 := hrw.cell (i := i) (j := 2) (by omega) (by omega)
          have f2 := hrw.frozen (i * 9 + 2)
          have t3 := hrw.cell (i := i) (j := 3) (by omega) (by omega)
          have f3 := hrw.frozen (i * 9 + 3)
          have t4 := hrw.cell (i := i) (j := 4) (by omega) (by omega)
          have f4 := hrw.frozen (i * 9 + 4)
          have t5 := hrw.cell (i := i) (j := 5) (by omega) (by omega)
          have f5 := hrw.frozen (i * 9 + 5)
          have t6 := hrw.cell (i := i) (j := 6) (by omega) (by omega)
          have f6 := hrw.frozen (i * 9 + 6)
          have t7 := hrw.cell (i := i) (j := 7) (by omega) (by omega)
          have f7 := hrw.frozen (i * 9 + 7)
          have t8 := hrw.cell (i := i) (j := 8) (by omega) (by omega)
          have f8 := hrw.frozen (i * 9 + 8)
          have HB3 := Lib.hid (⟨hrw, hb2⟩ : RowE Ent.c w2 base g cap d ∧ _)
          simp only [Nat.add_zero] at t0 f0
          clear hrw hb2 hB2
          go_wp2
          go_roundw
          case rel => 
            have hp := HB3.out.1.put (i := i) (by omega) x
            refine ⟨i + 1, j + 1, by go_num, by go_num, by omega, by omega, Lib.hid ⟨d.set i x, HK1.out, hp.1⟩, ?_⟩
            exact honly.trans (((Only.refl g wr).alloc _).trans ((Only.of_below (HB3.out.2.mono (Nat.le_refl _))).trans hp.2))
          case measure => simp [intOf]; omega
        · rw [dct (show small ≤ x.rows by omega)] at hT
          have HT := Lib.hid hT
          have HS1 := Lib.hid (HS.out hy)
          clear hT hy HK HS
          go_wp2_with fail
          refine (HT.out _ (by rw [World.cell?_alloc_lt _ _ _ (by show b < _; omega)]; exact HBW.out)).mono ?_
          rintro e w2 ⟨rfl, hb2⟩
          have hs2 := hb2.size
          have HB3 := Lib.hid hb2
          clear hb2
          go_wp2
          go_roundw
          case rel =>
            have hb2 := HB3.out
            have hbb := ((Below.refl _ wr).alloc (Nat.le_refl _) _).trans (hb2.mono (Nat.le_of_lt (lt_alloc _ _)))
            exact ⟨i, j + 1, rfl, by go_num, by omega, by omega, Lib.hid ⟨d, HS1.out, RowE.below HD1.out.2 hbb⟩, honly.trans (Only.of_below hbb)⟩
          case measure => simp [intOf]; omega
      · have hje : j = n := by omega
        subst hje
        have hil : i < d.length := by omega
        have hrow := HD1.out.2
        have hcl : ∀ ty, (Builtin.clear_ #[22] ty #[.slice (some ⟨g, i * 9, none⟩) (j - i) (cap - i)]).run Try.prog wr = .ok (.tuple #[]) (wr.setCells g (i * 9) (zs (j - i))) := fun ty => run_clear_nine wr g (i * 9) (j - i) (cap - i) (by omega) (fun q hq => by rw [World.ownsRow.cellAt hrow _ (by omega), List.getElem?_eq_getElem (by rw [flat_len]; omega)]; rfl) (fun q hq => hrow.frozen _) ty
        have HC := Lib.hid (RowE.cleared (k := i) hrow (by omega))
        rw [hdn] at HC
        have HE : Hid (d.take i = smalls small l ∧ (smalls small l).length = i) := Lib.hid (by
          have h1 : d.take i = smalls small l := Moved.done (by have := HD1.out.1; rw [← HN.out]; exact this)
          exact ⟨h1, by rw [← h1, List.length_take]; omega⟩)
        clear hrow hil
        go_wp2
        go_ret
        exact ⟨by rw [HE.out.2]; rfl, by rw [← HE.out.1]; exact HC.out.1, honly.trans HC.out.2⟩
end Go.Proofs.Ytophfgijfmdbcaa
