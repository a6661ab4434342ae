/- Rows whose labels are written over (chapter 9). -/
import Derived.Test.YtennddlihcamnaaRecL
namespace Go.Proofs.Ytennddlihcamnaa
open Go.RowKit

/-- Only blocks from lo on and below hi may have turned. -/
structure Mid (lo hi : Nat) (w w' : World) : Prop where
  os : w'.os = w.os
  tape : w'.tape = w.tape
  output : w'.output = w.output
  size : w.heap.size ≤ w'.heap.size
  block : ∀ i, i < w.heap.size → (i < lo ∨ hi ≤ i) → w'.heap[i]? = w.heap[i]?
theorem Mid.refl (lo hi : Nat) (w : World) : Mid lo hi w w := ⟨rfl, rfl, rfl, Nat.le_refl _, fun _ _ _ => rfl⟩
theorem Mid.setCell {lo hi : Nat} {w w' : World} (h : Mid lo hi w w') {p : Addr} (h1 : lo ≤ p.block) (h2 : p.block < hi) (u : Value) : Mid lo hi w (w'.setCell p u) :=
  ⟨h.os, h.tape, h.output, by have := h.size; simpa using this, fun i hi' hc => (heap_setCell_other w' p i u (by omega)).trans (h.block i hi' hc)⟩
theorem Mid.below {lo hi : Nat} {w w' : World} (h : Mid lo hi w w') (hl : lo ≤ w.heap.size) : Below lo w w' := ⟨h.os, h.tape, h.output, h.size, fun i hi => h.block i (by omega) (.inl hi)⟩
theorem Mid.own {lo hi base n s : Nat} {e : TypeId} {w w' : World} {v : Value} {xs : List Value} (h : Mid lo hi w w') (ho : w.ownsRow base e s v n xs) (hb : hi ≤ base) : w'.ownsRow base e s v n xs := by
  refine ⟨ho.1, ?_⟩
  rcases ho.2 with h0 | ⟨g, cap, cur, hv, hg, hgg, r⟩
  · exact .inl h0
  · refine .inr ⟨g, cap, cur, hv, hg, ?_, r⟩
    rw [h.block g (Array.getElem?_eq_some_iff.1 hgg).1 (.inr (by omega))]
    exact hgg
theorem Mid.rows {lo hi base k : Nat} {w w' : World} {l : List Rec} {maker seq : Int} {v : Value} {ps : List Pos} (h : Mid lo hi w w') (ho : RowsOwn w base l maker seq k v ps) (hb : hi ≤ base) : RowsOwn w' base l maker seq k v ps :=
  ⟨ho.len, h.own ho.own hb, fun i hi => h.own (ho.each i hi) hb⟩

/-- The labels of n rows lie there and may be written. -/
def Pres (lo hi g : Nat) (l : List Rec) (ps : List Pos) (n : Nat) (w : World) : Prop :=
  (∀ i, i < n → w.cell? ⟨g, i * 9 + 2, none⟩ = some (.slice (posAt ps i).1 (recAt l i).labs.length (posAt ps i).2)) ∧
  ∀ i, i < n → 0 < (recAt l i).labs.length → ∃ b, (posAt ps i).1 = some ⟨b, 0, none⟩ ∧ lo ≤ b ∧ b < hi ∧ b ≠ g ∧ ∀ j, j < (recAt l i).labs.length * 2 → (∃ u, w.cell? ⟨b, j, none⟩ = some u) ∧ w.frozen? ⟨b, j, none⟩ = false
theorem Pres.of {base n c : Nat} {w w' : World} {A : Option Addr} {l : List Rec} {maker seq : Int} {ps : List Pos} {g : Nat} (h : RowsOwn w base l maker seq n (.slice A n c) ps) (hb : Below w.heap.size w w') (hA : A = some ⟨g, 0, none⟩) (hp : 0 < n) : Pres base w.heap.size g l ps n w' := by
  subst hA
  obtain ⟨g', e, _, hg2, hc⟩ := row_at h hp
  have : g = g' := by injection e with e; injection e
  subst this
  refine ⟨fun i hi => (hb.cell (p := ⟨g, _, none⟩) hg2).trans (hc i hi 2 _ rfl), fun i hi hl => ?_⟩
  have ho := h.each i hi
  have hlt := ho.lt
  have ho' := own_below ho hb
  rcases h.own.2 with ⟨h0, _⟩ | ⟨g1, cap1, cur1, hv1, hb1, hg1, _⟩
  · cases h0
  have e1 : g = g1 := by injection hv1 with a; injection a with a; injection a
  subst e1
  rcases ho.2 with ⟨_, h0⟩ | ⟨b, cap, cur, hv, hbb, hgg, _⟩
  · omega
  · injection hv with h1 h2 h3
    rw [h1] at ho' hlt
    refine ⟨b, h1, hbb, (hlt b rfl).2, fun e => ?_, fun j hj => ⟨?_, ho'.frozenAt j⟩⟩
    · subst e
      rw [hg1] at hgg
      injection hgg with a
      injection a with _ a
      exact absurd a (by decide)
    · have hl2 := ho'.1
      exact ⟨_, (ho'.cellAt j hj).trans (List.getElem?_eq_getElem (by omega))⟩
theorem Pres.setCell {lo hi g n b j : Nat} {w : World} {l : List Rec} {ps : List Pos} (h : Pres lo hi g l ps n w) (hb : b ≠ g) (hc : ∃ u, w.cell? ⟨b, j, none⟩ = some u) (v : Value) : Pres lo hi g l ps n (w.setCell ⟨b, j, none⟩ v) := by
  refine ⟨fun i hi => ?_, fun i hi hl => ?_⟩
  · rw [World.cell?_setCell_other _ _ _ _ (by intro e; injection e with e; exact hb e)]
    exact h.1 i hi
  · obtain ⟨b', e, h1, h2, h3, h4⟩ := h.2 i hi hl
    refine ⟨b', e, h1, h2, h3, fun j' hj => ⟨?_, ?_⟩⟩
    · by_cases hq : (⟨b', j', none⟩ : Addr) = ⟨b, j, none⟩
      · rw [hq]
        obtain ⟨u, hu⟩ := hc
        exact ⟨v, World.cell?_setCell_same w _ v hu⟩
      · rw [World.cell?_setCell_other _ _ _ _ (fun e => hq e.symm)]
        exact (h4 j' hj).1
    · rw [World.frozen?_setCell]
      exact (h4 j' hj).2
end Go.Proofs.Ytennddlihcamnaa
