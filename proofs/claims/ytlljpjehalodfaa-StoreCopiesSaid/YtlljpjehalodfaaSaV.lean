/- Two stores beside each other; a map cloned (chapter 14). -/
import Derived.Test.YtlljpjehalodfaaProg
import Derived.Test.YtlljpjehalodfaaSaQ
import Derived.Test.YtlljpjehalodfaaSaG
import Derived.Test.YtlljpjehalodfaaIter
namespace Go.Proofs.Ytlljpjehalodfaa
open Go.RowKit
namespace St

theorem cloneO_calls (w : World) {b : Nat} {l : List (ByteArray × Ob)} (h : MapAt kS evO w b l) : Calls Try.prog 35 #[.map (some b)] w fun e w' => e = .returned (.map (some w.heap.size)) ∧ MapAt kS evO w' w.heap.size l ∧ Below w.heap.size w w' ∧ w.heap.size < w'.heap.size := by
  refine (AnyW.maps_Clone_owns Try.clone35 _ _ b _ _ w h.own).mono ?_
  rintro e w' ⟨rfl, h1, -, hb⟩
  exact ⟨rfl, ⟨h1, h.ok⟩, hb, h1.lt⟩
theorem cloneP_calls (w : World) {b : Nat} {l : List (Int × Pt)} (h : MapAt kI evP w b l) : Calls Try.prog 36 #[.map (some b)] w fun e w' => e = .returned (.map (some w.heap.size)) ∧ MapAt kI evP w' w.heap.size l ∧ Below w.heap.size w w' ∧ w.heap.size < w'.heap.size := by
  refine (AnyW.maps_Clone_owns Try.clone36 _ _ b _ _ w h.own).mono ?_
  rintro e w' ⟨rfl, h1, -, hb⟩
  exact ⟨rfl, ⟨h1, h.ok⟩, hb, h1.lt⟩
theorem mput_filter {β : Type} {q : Int → Bool} {x : Int} {v : β} : ∀ {l : List (Int × β)}, l.Pairwise (fun p r => p.1 < r.1) → (x, v) ∈ l → q x = false → mput ltI (l.filter fun p => q p.1) x v = l.filter fun p => q p.1 || decide (p.1 = x)
  | a :: r, hs, hm, hq => by
    have hs' := List.pairwise_cons.1 hs
    have hdel : ∀ l : List (Int × β), mdel (l.filter fun p => q p.1) x = l.filter fun p => q p.1 := fun l => by
      unfold mdel
      refine List.filter_eq_self.2 fun p hp => ?_
      have := (List.mem_filter.1 hp).2
      simp only [ne_eq, decide_not, Bool.not_eq_true', decide_eq_false_iff_not]
      intro e; rw [e, hq] at this; cases this
    unfold mput
    rw [hdel]
    by_cases e : a.1 = x
    · have hax : a = (x, v) := by
        rcases List.mem_cons.1 hm with h | h
        · exact h.symm
        · have := hs'.1 _ h; dsimp only at this; omega
      have hrest : ∀ p ∈ r, p.1 ≠ x := fun p hp => by have := hs'.1 p hp; omega
      have hf : (r.filter fun p => q p.1 || decide (p.1 = x)) = r.filter fun p => q p.1 := List.filter_congr fun p hp => by simp [hrest p hp]
      rw [List.filter_cons_of_neg (by rw [e, hq]; decide), List.filter_cons_of_pos (by simp [e]), hf, hax]
      cases hfr : r.filter fun p => q p.1 with
      | nil => rfl
      | cons b s =>
        have hb : b ∈ r := (List.mem_filter.1 (hfr ▸ List.mem_cons_self : b ∈ r.filter fun p => q p.1)).1
        unfold mins
        rw [if_pos]
        unfold ltI
        have := hs'.1 b hb
        exact decide_eq_true (by dsimp only; omega)
    · have hm' : (x, v) ∈ r := by
        rcases List.mem_cons.1 hm with h | h
        · exact absurd (congrArg Prod.fst h).symm e
        · exact h
      have ih := mput_filter hs'.2 hm' hq
      unfold mput at ih
      rw [hdel] at ih
      have hlt : a.1 < x := hs'.1 _ hm'
      by_cases hqa : q a.1 = true
      · rw [List.filter_cons_of_pos (p := fun p : Int × β => q p.1) hqa, List.filter_cons_of_pos (by simp [hqa])]
        unfold mins
        rw [if_neg (by unfold ltI; simp; omega), ih]
      · rw [List.filter_cons_of_neg (p := fun p : Int × β => q p.1) hqa, List.filter_cons_of_neg (by simp [hqa, e]), ih]
section
variable {w w' : World} {L C L' C' : LS}
/-- What one store's calls turn is none of another's. -/
def Apart (L C : LS) : Prop := ∀ i, L.foot i → ¬ C.foot i
theorem Apart.symm (h : Apart L C) : Apart C L := fun i h1 h2 => h i h2 h1
theorem At.off_store (h : At w L) (hC : At w C) {A : Option Addr} {c : Nat} {d : Bs} (hd : Dat w L.gs A c d) : ∀ b off, A = some ⟨b, off, none⟩ → 0 < d.length → ¬ C.foot b := fun b off e hl hf => by
  obtain ⟨b', off', e', _, hc⟩ := hd.at_ hl
  rw [e] at e'
  injection e' with e'
  injection e' with e1 e2
  have h0 := hc 0 (byteV d[0]) (by simp [List.getElem?_eq_getElem hl])
  rw [← e1] at h0
  obtain ⟨hlt, cs, t, f, hb⟩ := cell_lt h0
  by_cases hg : b = C.gs
  · have hcell := hC.blk
    rw [hg, hC.blk.cell] at h0
    obtain ⟨hlt', h0⟩ := Array.getElem?_eq_some_iff.1 h0
    have hall : ∀ (i : Nat) (hi : i < C.cells.size), C.cells[i] ≠ byteV d[0] := by
      intro i hi
      have : i < 6 := hi
      rcases (by omega : i = 0 ∨ i = 1 ∨ i = 2 ∨ i = 3 ∨ i = 4 ∨ i = 5) with rfl | rfl | rfl | rfl | rfl | rfl <;> (intro h; cases h)
    exact hall _ hlt' h0
  · exact hC.foot_cells hb hg hf
theorem Dat.kept_by (h : At w L) (hC : At w C) (hk : Keep C.foot w w') {A : Option Addr} {c : Nat} {d : Bs} (hd : Dat w L.gs A c d) : Dat w' L.gs A c d := by
  refine ⟨hd.len, fun hl => ?_⟩
  obtain ⟨b, off, e, hne, hc⟩ := hd.at_ hl
  exact ⟨b, off, e, hne, fun j u hu => hk.cell (hc j u hu) (h.off_store hC hd b off e hl)⟩
/-- A store stays while another one turns. -/
theorem At.beside (h : At w L) (hC : At w C) (hk : Keep C.foot w w') (ha : Apart L C) : At w' L :=
  { h with
    blk := hk.blk h.blk (ha _ (.inl rfl))
    mo := hk.map h.mo (ha _ (.inr (.inl rfl)))
    mu := hk.map h.mu (ha _ (.inr (.inr (.inl rfl))))
    od := fun p hp => (h.od p hp).kept_by h hC hk
    um := fun p hp => hk.map (h.um p hp) (ha _ (.inr (.inr (.inr ⟨p, hp, rfl⟩))))
    ud := fun p hp q hq => (h.ud p hp q hq).kept_by h hC hk }
end
/-- Two stores that a statement made in world w. -/
structure Two (w wr : World) (g : Nat) (L : LS) (n : Nat) (k : Nat) (C : LS) (m : Nat) : Prop where
  l : Liv w wr g L n
  c : Liv w wr k C m
  ap : Apart L C
section
variable {w wr wx : World} {g k n m : Nat} {L C L' C' : LS} {x : Cl}
theorem Two.on (h : Two w wr g L n k C m) (hb : Below wr.heap.size wr wx) : Two w wx g L n k C m := ⟨h.l.on hb, h.c.on hb, h.ap⟩
theorem Two.swap (h : Two w wr g L n k C m) : Two w wr k C m g L n := ⟨h.c, h.l, h.ap.symm⟩
theorem Two.stepL (h : Two w wr g L n k C m) (hs : StepTo wr L x wx L') (hi : PInv L'.pure (n + 1)) : Two w wx g L' (n + 1) k C m :=
  ⟨h.l.step hs hi, ⟨h.c.at_.beside h.l.at_ hs.keep h.ap.symm, h.c.inv, h.c.gs, h.c.high, h.c.below.trans (hs.below h.l.size h.l.high)⟩, fun i hl hc => by
    rcases hs.foot i hl with h1 | h1
    · exact h.ap i h1 hc
    · have := h.c.at_.foot_lt hc; omega⟩
theorem Two.tickL (h : Two w wr g L n k C m) {d : Int} (hA : At wx (L.tick d)) (hK : Keep L.foot wr wx) (hi : PInv (L.tick d).pure n) : Two w wx g (L.tick d) n k C m :=
  ⟨h.l.tick hA hK hi, ⟨h.c.at_.beside h.l.at_ hK h.ap.symm, h.c.inv, h.c.gs, h.c.high, h.c.below.trans (hK.below h.l.size h.l.high)⟩, fun i hl hc => h.ap i (tick_foot L d hl) hc⟩
end
end St
end Go.Proofs.Ytlljpjehalodfaa
