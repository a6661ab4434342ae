/- The text of any labels; a row's place; small laws for the walk of record.Split. -/
import Derived.Test.YtennddlihcamnaaProg
import Derived.Test.YtennddlihcamnaaSpN
import Derived.Test.YtennddlihcamnaaSpO
import Derived.Test.YtennddlihcamnaaSpPM
import Derived.Test.YtennddlihcamnaaRwF
import Derived.Test.YtennddlihcamnaaLabPo
import Derived.Test.YtennddlihcamnaaLabTV
namespace Go.Proofs.Ytennddlihcamnaa.Sp
set_option linter.unusedVariables false
set_option linter.unusedSimpArgs false
open Go.RowKit Go.Proofs.Ytennddlihcamnaa Go.Proofs.Ytennddlihcamnaa.So

set_option maxRecDepth 100000 in
theorem text_no (w : World) {B c : Nat} {A : Option Addr} {l : List Lab} (h : Labs w B A l) (hB : B ≤ w.heap.size) (hf : Fit l) (hn : l.length ≤ 140737488355328) (hr : rightB l = false) :
    Calls Try.prog 42 #[.slice A l.length c] w fun e w' => e = .returned (.tuple #[.string ⟨#[]⟩, .int .i64 4]) ∧ Below w.heap.size w w' := by
  have hcall := right_calls w (c := c) h hB hf hn
  rw [hr] at hcall
  have HC := Lib.hid hcall
  clear hr hcall
  go_enter Try.func42, Try.ntmps42
  go_wp2_with fail
  refine HC.out.mono ?_
  rintro e w1 ⟨rfl, hb1⟩
  go_wp2
  go_ret2
  exact ⟨rfl, hb1⟩
def textP (l : List Lab) : ByteArray := if rightB l = true then ⟨(textB l).toArray⟩ else ⟨#[]⟩
theorem text_any (w : World) {B c : Nat} {A : Option Addr} {l : List Lab} (h : Labs w B A l) (hB : B ≤ w.heap.size) (hf : Fit l) (hn : l.length ≤ 140737488355328) :
    Calls Try.prog 42 #[.slice A l.length c] w fun e w' => ∃ z, e = .returned (.tuple #[.string (textP l), .int .i64 z]) ∧ Below w.heap.size w w' := by
  unfold textP
  cases hr : rightB l
  · refine (text_no w h hB hf hn hr).mono ?_
    rintro e w' ⟨rfl, hb⟩
    exact ⟨4, rfl, hb⟩
  · refine (text_yes w h hB hf hn hr).mono ?_
    rintro e w' ⟨rfl, hb⟩
    exact ⟨0, rfl, hb⟩
theorem textP_len (l : List Lab) : (textP l).size ≤ maxLen := by
  unfold textP
  cases hr : rightB l
  · exact Nat.zero_le _
  · have hl4 : l.length ≤ 4 := (of_decide_eq_true hr : rightP l).1
    have h1 := pre_len hr (Nat.le_refl l.length) hl4
    have e : textB l = (123 :: textK l l.length) ++ [125] := rfl
    show (textB l).toArray.size ≤ maxLen
    rw [List.size_toArray, e, List.length_append, List.length_singleton]
    unfold maxLen
    omega
/-- Where a row belongs. -/
def keyR (win : Int) (by_ : List ByteArray) (x : Rw) : Int × ByteArray := (x.time.tdiv win, textP (partB x.labs by_))
theorem keyR_logic (win : Int) (by_ : List ByteArray) (x : Rw) : keyR win by_ x.logic = keyR win by_ x := rfl
theorem tdiv_in {a b : Int} (h : -9223372036854775808 ≤ a ∧ a ≤ 9223372036854775807) (hb : 1 ≤ b) : -9223372036854775808 ≤ a.tdiv b ∧ a.tdiv b ≤ 9223372036854775807 := by
  have h1 : (a.tdiv b).natAbs ≤ a.natAbs := by
    rw [Int.natAbs_tdiv]
    exact Nat.div_le_self _ _
  have h2 := Int.tdiv_le_self (a := a.natAbs) b (by omega)
  rcases Int.lt_or_le a 0 with h3 | h3
  · have h4 : a.tdiv b ≤ 0 := by
      have := Int.tdiv_nonneg (a := -a) (b := b) (by omega) (by omega)
      rw [Int.neg_tdiv] at this
      omega
    omega
  · have h4 := Int.tdiv_nonneg h3 (show (0 : Int) ≤ b by omega)
    omega
theorem wf_of {n : Int} (h : -9223372036854775808 ≤ n ∧ n ≤ 9223372036854775807) : (Lit.int .i64 n).wf = true := by
  have h2 : IntKind.i64.min = -9223372036854775808 := rfl
  have h3 : IntKind.i64.max = 9223372036854775807 := rfl
  simp only [Lit.wf, Bool.and_eq_true, decide_eq_true_eq, h2, h3]
  exact h
theorem part_fit {l : List Lab} (h : Fit l) (by_ : List ByteArray) : Fit (partB l by_) := fun x hx => h x (List.mem_filter.1 hx).1
theorem part_le (l : List Lab) (by_ : List ByteArray) : (partB l by_).length ≤ l.length := List.length_filter_le _ _
/-- Only one block has turned, and a row that is younger. -/
theorem Only.row {g : Nat} {a w w' : World} {row : Option Nat} (h : Only g a w) (hg : w.grownBy w' row) (hr : ∀ k, row = some k → a.heap.size ≤ k) : Only g a w' :=
  ⟨hg.os.trans h.os, hg.tape.trans h.tape, hg.output.trans h.output, Nat.le_trans h.size hg.size, fun i hi hne => (hg.block i (Nat.lt_of_lt_of_le hi h.size) fun e => by have := hr i e.symm; omega).trans (h.block i hi hne)⟩
theorem RowsO.only_ {w w' : World} {base g : Nat} {v : Value} {d : List Rw} (h : RowsO w base v d) (ho : Only g w w') (hg : g < base) : RowsO w' base v d := ⟨own_only h.own ho hg, fun x hx => own_only (h.each x hx) ho hg⟩
def prG (g : Gp Rw) : (Int × ByteArray) × List Rw := pr g.win g.part g.rows
theorem prG_set {gs : List (Gp Rw)} {n : Nat} (hn : n < gs.length) (A : Option Addr) (c : Nat) (x : Rw) :
    (gs.set n ⟨gs[n].win, gs[n].part, A, c, gs[n].rows ++ [x]⟩).map prG = (gs.map prG).set n (((gs.map prG)[n]'(by simpa using hn)).1, ((gs.map prG)[n]'(by simpa using hn)).2 ++ [x]) := by
  rw [List.map_set]
  congr 1
  simp [prG, pr]
theorem Gs.low {ρ : Type} {cs : ρ → List Value} {W : World} {base base' k c : Nat} {eG eR : TypeId} {A : Option Addr} {gs : List (Gp ρ)} (h : Gs cs W base k eG eR A c gs) (hb : base' ≤ base) : Gs cs W base' k eG eR A c gs :=
  ⟨own_base h.out hb, fun g hg => own_base (h.rows g hg) hb, h.apart⟩
theorem mput_len {κ β : Type} [DecidableEq κ] (lt : κ → κ → Bool) (l : List (κ × β)) (x : κ) (v : β) : (mput lt l x v).length ≤ l.length + 1 := by
  unfold mput
  rw [(mins_perm _).length_eq, List.length_cons]
  exact Nat.succ_le_succ (List.length_filter_le _ _)
/-- What one step does, where the place has its group. -/
theorem one_old {key : Rw → Int × ByteArray} {m : List (Place × Nat)} {gs : List (Gp Rw)} {x : Rw} {p : Place} {n : Nat} (hI : Idx m (gs.map prG)) (hp : p.1 = key x) (hm : mget m p = some n) :
    ∃ hn : n < gs.length, (∀ A c, (gs.set n ⟨gs[n].win, gs[n].part, A, c, gs[n].rows ++ [x]⟩).map prG = stepG key (gs.map prG) x) ∧ ∀ A c, Idx m ((gs.set n ⟨gs[n].win, gs[n].part, A, c, gs[n].rows ++ [x]⟩).map prG) := by
  obtain ⟨h1, h2⟩ := hI.there hm
  have hn : n < gs.length := by simpa using h1
  rw [hp] at h2
  refine ⟨hn, fun A c => ?_, fun A c => ?_⟩
  · rw [stepG_old h1 h2, prG_set hn]
  · refine hI.keys ?_
    rw [prG_set hn]
    exact set_keys h1 _
/-- What one step does, where it has none. -/
theorem one_new {key : Rw → Int × ByteArray} {m : List (Place × Nat)} {gs : List (Gp Rw)} {x : Rw} {p : Place} (lt : Place → Place → Bool) (hI : Idx m (gs.map prG)) (hp : p.1 = key x) (hm : mget m p = none) (gs' : List (Gp Rw)) (hgs : gs' = gs ++ [⟨(key x).1, (key x).2, none, 0, []⟩]) :
    ∃ hn : gs.length < gs'.length, (∀ A c, (gs'.set gs.length ⟨gs'[gs.length].win, gs'[gs.length].part, A, c, gs'[gs.length].rows ++ [x]⟩).map prG = stepG key (gs.map prG) x) ∧ ∀ A c, Idx (mput lt m p gs.length) ((gs'.set gs.length ⟨gs'[gs.length].win, gs'[gs.length].part, A, c, gs'[gs.length].rows ++ [x]⟩).map prG) := by
  have h1 := hI.none_ hm
  have hn : gs.length < gs'.length := by rw [hgs]; simp
  have hmp : gs'.map prG = gs.map prG ++ [(key x, [])] := by rw [hgs, List.map_append]; rfl
  have hidx := hI.new lt h1 ([] : List Rw)
  rw [hp] at h1
  refine ⟨hn, fun A c => ?_, fun A c => ?_⟩
  · rw [stepG_new h1, prG_set hn]
    have e : ((gs'.map prG)[gs.length]'(by simpa using hn)) = (key x, []) := by simp only [hmp]; rw [List.getElem_append_right (by simp)]; simp
    rw [e, hmp]
    simp
  · have h3 := hidx.keys (gs' := ((gs'.set gs.length ⟨gs'[gs.length].win, gs'[gs.length].part, A, c, gs'[gs.length].rows ++ [x]⟩).map prG)) (by
      rw [prG_set hn, set_keys, hmp, hp])
    rw [List.length_map] at h3
    exact h3
theorem fold_take {key : Rw → Int × ByteArray} {d : List Rw} {k : Nat} (hk : k < d.length) : foldG key (d.take (k + 1)) = stepG key (foldG key (d.take k)) (Sr.gt d k) := by
  unfold foldG
  rw [List.take_succ_eq_append_getElem hk, List.foldl_append, Sr.gt_eq hk]
  rfl
theorem inv_len {key : Rw → Int × ByteArray} {S : List Rw} {gs : List (Gp Rw)} {k : Nat} (hI : Inv key S (gs.map prG)) (hlen : S.length ≤ k) : gs.length ≤ k ∧ ∀ g ∈ gs, g.rows.length ≤ k := by
  constructor
  · have h1 := hI.flat.length_eq
    rw [List.length_flatMap] at h1
    have h2 : (gs.map prG).length ≤ ((gs.map prG).map fun a => a.2.length).sum := by
      have : ∀ l : List ((Int × ByteArray) × List Rw), (∀ g ∈ l, g.2 ≠ []) → l.length ≤ (l.map fun a => a.2.length).sum := fun l => by
        induction l with
        | nil => intro _; exact Nat.le_refl _
        | cons g l ih =>
          intro hl
          have h3 := ih fun y hy => hl y (List.mem_cons_of_mem _ hy)
          have h4 : 0 < g.2.length := List.length_pos_iff.2 (hl g List.mem_cons_self)
          simp only [List.length_cons, List.map_cons, List.sum_cons]
          omega
      exact this _ hI.full
    rw [List.length_map] at h2
    omega
  · intro g hg
    have h1 := hI.rows (prG g) (List.mem_map_of_mem hg)
    have h2 : g.rows = S.filter fun y => decide (key y = (prG g).1) := h1
    rw [h2]
    exact Nat.le_trans (List.length_filter_le _ _) hlen
theorem fold_len {key : Rw → Int × ByteArray} {d : List Rw} {gs : List (Gp Rw)} {k : Nat} (h : gs.map prG = foldG key (d.take k)) : gs.length ≤ k ∧ ∀ g ∈ gs, g.rows.length ≤ k := by
  have hI := foldG_inv (key := key) (d.take k)
  rw [← h] at hI
  exact inv_len hI (List.length_take_le _ _)
end Go.Proofs.Ytennddlihcamnaa.Sp
