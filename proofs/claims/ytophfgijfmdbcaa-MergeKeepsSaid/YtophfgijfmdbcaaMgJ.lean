/- Lists of rows of the call's own that are the same as given ones; what is merged of them is the same (chapter 16). -/
import Derived.Test.YtophfgijfmdbcaaProg
import Derived.Test.YtophfgijfmdbcaaMgI
namespace Go.Proofs.Ytophfgijfmdbcaa.Mg
open Go.RowKit Go.Proofs.Ytophfgijfmdbcaa Go.Proofs.Ytophfgijfmdbcaa.So

theorem gt_logic {l : List Rw} {i : Nat} (hi : i < l.length) : Sr.gt (l.map Rw.logic) i = (Sr.gt l i).logic := by
  have h1 := logic_at hi
  have h2 : i < (l.map Rw.logic).length := by simpa using hi
  rw [List.getElem?_eq_getElem h2, Sr.gt_eq h2] at h1
  exact Option.some.inj h1
theorem risB_logic (l : List Rw) : risB (l.map Rw.logic) = risB l := by
  unfold risB
  refine decide_eq_decide.2 ⟨fun h i hi => ?_, fun h i hi => ?_⟩
  · have := h i (by simpa using hi)
    rwa [gt_logic (by omega), gt_logic (by omega)] at this
  · have hi : i < l.length - 1 := by simpa using hi
    rw [gt_logic (by omega), gt_logic (by omega)]
    exact h i hi
def logs (L : List (List Rw)) : List (List Rw) := L.map (List.map Rw.logic)
theorem all_logs (L : List (List Rw)) : (logs L).all risB = L.all risB := by
  unfold logs
  rw [List.all_map]
  congr 1
  funext l
  exact risB_logic l
theorem mAll_logs (L : List (List Rw)) : mAll (logs L) = (mAll L).map Rw.logic := by
  unfold mAll logs
  rw [List.flatMap_map, List.map_flatMap]
  rfl
theorem merge_logs (L : List (List Rw)) : mErr (logs L) = mErr L ∧ mRows (logs L) = (mRows L).map Rw.logic := by
  unfold mErr mRows
  rw [all_logs, mAll_logs, show isort ltR ((mAll L).map Rw.logic) = (isort ltR (mAll L)).map Rw.logic from (isort_logic _).symm, risB_logic]
  refine ⟨rfl, ?_⟩
  split
  · split <;> rfl
  · rfl
theorem merge_same {L M : List (List Rw)} (h : logs L = logs M) : mErr L = mErr M ∧ SameL (mRows L) (mRows M) := by
  have h1 := merge_logs L
  have h2 := merge_logs M
  rw [h] at h1
  exact ⟨h1.1.symm.trans h2.1, h1.2.symm.trans h2.2⟩
theorem RowsO.grown {w w' : World} {base b2 n2 : Nat} {v v2 : Value} {d : List Rw} {xs2 : List Value} (h : RowsO w base v d) (hv : w.ownsRow b2 47 1 v2 n2 xs2) (hg : w.grownBy w' v2.ownBlock) : RowsO w' base v d :=
  ⟨own_other h.own hv (by decide) hg, fun x hx => own_other (h.each x hx) hv (by decide) hg⟩
/-- The first k lists, once more, in memory of their own. -/
structure Own (w : World) (base k : Nat) (A : Option Addr) (c : Nat) (D L : List Lst) : Prop where
  row : w.ownsRow base 47 1 (.slice A k c) k (D.map Lst.v)
  len : D.length = k
  each : ∀ i, i < k → RowsO w base (lt_ D i).v (lt_ D i).l ∧ SameL (lt_ D i).l (lt_ L i).l
theorem Own.below {w w' : World} {base k c : Nat} {A : Option Addr} {D L : List Lst} (h : Own w base k A c D L) (hb : Below w.heap.size w w') : Own w' base k A c D L :=
  ⟨own_below h.row hb, h.len, fun i hi => ⟨(h.each i hi).1.below hb, (h.each i hi).2⟩⟩
theorem lt_snoc_lt {D : List Lst} {x : Lst} {i : Nat} (h : i < D.length) : lt_ (D ++ [x]) i = lt_ D i := by
  rw [← lt_eq (by rw [List.length_append]; omega), ← lt_eq h, List.getElem_append_left h]
theorem lt_snoc_eq {D : List Lst} {x : Lst} : lt_ (D ++ [x]) D.length = x := by
  rw [← lt_eq (by rw [List.length_append, List.length_cons]; omega)]
  simp
theorem Own.snoc {w w' : World} {base k c A' c'} {A : Option Addr} {D L : List Lst} {x : Lst} (h : Own w base k A c D L) (hx : RowsO w base x.v x.l) (hs : SameL x.l (lt_ L k).l) (hr : w'.ownsRow base 47 1 (.slice A' (k + 1) c') (k + 1) (D.map Lst.v ++ [x.v])) (hg : w.grownBy w' (Value.slice A k c).ownBlock) : Own w' base (k + 1) A' c' (D ++ [x]) L where
  row := by rw [List.map_append]; exact hr
  len := by rw [List.length_append, h.len]; rfl
  each i hi := by
    rcases Nat.lt_or_ge i k with h1 | h1
    · rw [lt_snoc_lt (by rw [h.len]; exact h1)]
      exact ⟨RowsO.grown (h.each i h1).1 h.row hg, (h.each i h1).2⟩
    · obtain rfl : i = k := by omega
      have := lt_snoc_eq (D := D) (x := x)
      rw [h.len] at this
      rw [this]
      exact ⟨RowsO.grown hx h.row hg, hs⟩
theorem own_cap {w : World} {base n c : Nat} {t : TypeId} {size : Nat} {A : Option Addr} {xs : List Value} (h : w.ownsRow base t size (.slice A n c) n xs) : n ≤ c := by
  rcases Nat.eq_zero_or_pos n with h0 | h0
  · omega
  · obtain ⟨_, _, _, _, h4⟩ := Hp.own_at h h0
    exact h4
theorem Own.ok_ {w : World} {base k c : Nat} {A : Option Addr} {D L : List Lst} (h : Own w base k A c D L) {i : Nat} (hi : i < k) (hf : ∀ x ∈ (lt_ L i).l, FitW x) (hn : (lt_ L i).l.length ≤ 4398046511104) : (lt_ D i).ok w w.heap.size := by
  obtain ⟨h1, h2⟩ := h.each i hi
  exact ⟨h1.rows (SameL.fits (Eq.symm h2) hf), own_cap h1.own, by rw [h2.len]; exact hn⟩
theorem Own.lists_ {w w0 : World} {B base k c : Nat} {A A0 : Option Addr} {D L : List Lst} (h : Own w base k A c D L) (hL : Lists w0 B A0 L) (hk : k ≤ L.length) : Lists w w.heap.size A D :=
  Lists.of_own h.row h.len fun x hx => by
    obtain ⟨i, hi, rfl⟩ := List.getElem_of_mem hx
    rw [lt_eq hi]
    rw [h.len] at hi
    have h1 := hL.each _ (lt_mem (L := L) (i := i) (by omega))
    exact h.ok_ hi h1.rows.fits h1.len
theorem Own.logs_ {w : World} {base c : Nat} {A : Option Addr} {D L : List Lst} (h : Own w base L.length A c D L) : logs (lists D) = logs (lists L) := by
  unfold logs lists
  rw [List.map_map, List.map_map]
  refine List.ext_getElem (by simp [h.len]) fun i h1 h2 => ?_
  rw [List.length_map] at h1 h2
  rw [List.getElem_map, List.getElem_map, lt_eq h1, lt_eq h2]
  exact (h.each i h2).2
theorem Own.total {w : World} {base c : Nat} {A : Option Addr} {D L : List Lst} (h : Own w base L.length A c D L) : (lAll D).length = (lAll L).length := by
  have h1 := congrArg mAll h.logs_
  rw [mAll_logs, mAll_logs, mAll_lists, mAll_lists] at h1
  simpa using congrArg List.length h1
end Go.Proofs.Ytophfgijfmdbcaa.Mg
