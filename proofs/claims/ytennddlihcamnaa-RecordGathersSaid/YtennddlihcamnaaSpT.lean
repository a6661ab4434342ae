/- slices.SortFunc at groups: the groups come in order, each one's rows stay where they were. -/
import Derived.Test.YtennddlihcamnaaProg
import Derived.Test.YtennddlihcamnaaSpS
import Derived.Test.YtennddlihcamnaaSpA
import Derived.Shelf.SlSortCmp.NoneTotal
namespace Go.Proofs.Ytennddlihcamnaa.Sp
set_option linter.unusedVariables false
set_option linter.unusedSimpArgs false
open Go.RowKit Go.Proofs.Ytennddlihcamnaa Go.Proofs.Ytennddlihcamnaa.So Go.Sort

variable {ρ : Type}
instance : Inhabited (Gp ρ) := ⟨⟨0, ⟨#[]⟩, none, 0, []⟩⟩
theorem fm_get : ∀ (gs : List (Gp ρ)) (t : Nat), t < gs.length * 3 → (gs.flatMap Gp.cells)[t]? = some ((Gp.cells gs.toArray[t / 3]!)[t % 3]!)
  | [], t, h => absurd h (by simp)
  | g :: r, t, h => by
    rw [List.flatMap_cons]
    by_cases h3 : t < 3
    · rw [List.getElem?_append_left (by rw [gp_len]; exact h3), Nat.div_eq_of_lt h3, Nat.mod_eq_of_lt h3]
      rcases t with _ | _ | _ | t
      · rfl
      · rfl
      · rfl
      · omega
    · obtain ⟨u, rfl⟩ : ∃ u, t = u + 3 := ⟨t - 3, by omega⟩
      rw [List.length_cons] at h
      rw [List.getElem?_append_right (by rw [gp_len]; omega), gp_len, Nat.add_sub_cancel, fm_get r u (by omega), Nat.add_mod_right, Nat.add_div_right _ (by decide)]
      simp
theorem fm_len (gs : List (Gp ρ)) : (gs.flatMap Gp.cells).length = gs.length * 3 := by
  induction gs with
  | nil => rfl
  | cons g r ih => rw [List.flatMap_cons, List.length_append, ih, gp_len, List.length_cons]; omega
theorem fm_two {gs : List (Gp ρ)} {n : Nat} (hn : n < gs.length) : (gs.flatMap Gp.cells)[n * 3 + 2]? = some (gs[n].sl) := by
  rw [fm_get gs _ (by omega), show (n * 3 + 2) / 3 = n by omega, show (n * 3 + 2) % 3 = 2 by omega]
  simp [Gp.cells, hn]
theorem only_sorted {enc : Gp ρ → List Value} {k : Nat} (w : World) (blk off n : Nat) (d : Array (Gp ρ)) (os : Array Obj) : Only blk w (sortWorldK enc k w blk off n d os) := by
  refine ⟨rfl, rfl, rfl, ?_, fun i hi hne => ?_⟩
  · unfold sortWorldK putRowK
    rw [size_grow, size_putRow, heap_ahead]
    omega
  · unfold sortWorldK putRowK
    rw [heap_grow_old _ _ (by rw [size_putRow, heap_ahead]; exact hi)]
    unfold putRow mapBlock
    show ((Go.Sort.ahead w n).heap.modify blk _)[i]? = _
    rw [Array.getElem?_modify, if_neg (fun e => hne (by rw [e])), heap_ahead]
theorem blk_sorted {enc : Gp ρ → List Value} {k : Nat} (w : World) {blk : Nat} (off n : Nat) (d : Array (Gp ρ)) (os : Array Obj) {t : TypeId} {cur : Array Value} (h : Blk w blk t cur) : Blk (sortWorldK enc k w blk off n d os) blk t (putCells id off (flatK enc k d) cur) := by
  show (sortWorldK enc k w blk off n d os).heap[blk]? = _
  unfold sortWorldK putRowK
  rw [heap_grow_old _ _ (by rw [size_putRow, heap_ahead]; exact h.lt)]
  unfold putRow mapBlock
  show ((Go.Sort.ahead w n).heap.modify blk _)[blk]? = _
  rw [Array.getElem?_modify, if_pos rfl, heap_ahead, show w.heap[blk]? = _ from h]
  rfl
theorem take_put (d : Array (Gp ρ)) (cur : Array Value) (h : d.size * 3 ≤ cur.size) : (putCells id 0 (flatK Gp.cells 3 d) cur).toList.take (d.size * 3) = d.toList.flatMap Gp.cells := by
  refine List.ext_getElem? fun i => ?_
  rw [List.getElem?_take]
  by_cases hi : i < d.size * 3
  · rw [if_pos hi, fm_get d.toList i (by simpa using hi)]
    unfold putCells
    rw [Array.toList_mapIdx, List.getElem?_mapIdx, Array.getElem?_toList, Array.getElem?_eq_getElem (by omega)]
    simp only [Option.map_some, size_flatK, Nat.zero_add, Nat.zero_le, true_and, Nat.sub_zero, Array.toArray_toList]
    rw [if_pos hi, get_flatK _ _ _ _ hi]
    rfl
  · rw [if_neg hi, List.getElem?_eq_none]
    rw [fm_len]
    simp only [Array.length_toList]
    omega
section
variable {cs : ρ → List Value} {w w' : World} {base k g : Nat} {eR : TypeId} {A : Option Addr} {c : Nat} {gs : List (Gp ρ)}
theorem Gs.holds (h : Gs cs w base k 52 eR (some ⟨g, 0, none⟩) c gs) : HoldsK Gp.cells 3 w g 0 gs.toArray := fun j hj => by
  rw [size_flatK] at hj
  have hj' : j < gs.length * 3 := by simpa using hj
  refine ⟨?_, by rw [Nat.zero_add]; exact h.out.frozenAt j⟩
  rw [Nat.zero_add, h.out.cellAt j hj', fm_get gs j hj', get_flatK _ _ _ _ hj]
  rfl
/-- The groups in another order, each with the rows that it had. -/
theorem Gs.sorted (h : Gs cs w base k 52 eR (some ⟨g, 0, none⟩) c gs) (hne : eR ≠ 52) {d : Array (Gp ρ)} (hd : d.size = gs.length) (hp : d.toList.Perm gs) (n : Nat) (os : Array Obj) :
    Gs cs (sortWorldK Gp.cells 3 w g 0 n d os) base k 52 eR (some ⟨g, 0, none⟩) c d.toList := by
  have ho : Only g w (sortWorldK Gp.cells 3 w g 0 n d os) := only_sorted w g 0 n d os
  have hl : d.toList.length = gs.length := hp.length_eq
  refine ⟨?_, fun x hx => ?_, hp.symm.pairwise h.apart fun {a b} hab i h1 h2 => hab i h2 h1⟩
  · rcases h.out.2 with ⟨h', _⟩ | ⟨g', cap', cur, h', hb, hg, hnc, hcm, hcs, htake⟩
    · simp at h'
    · simp only [Value.slice.injEq, Option.some.injEq, Addr.mk.injEq, and_true, true_and] at h'
      obtain ⟨rfl, rfl⟩ := h'
      rw [hl]
      refine ⟨by rw [fm_len, hl], .inr ⟨g, c, _, rfl, hb, blk_sorted w 0 n d os hg, hnc, hcm, ?_, ?_⟩⟩
      · unfold putCells; rw [Array.size_mapIdx]; exact hcs
      · rw [← hd]
        exact take_put d cur (by rw [hcs, hd]; exact Nat.mul_le_mul_right 3 hnc)
  · refine (h.rows x (hp.mem_iff.1 hx)).kept ho ?_
    exact blk_apart (h.rows x (hp.mem_iff.1 hx)) h.out hne
end

set_option maxRecDepth 100000 in
theorem sortG_calls (w : World) {cs : ρ → List Value} {base k c : Nat} {eR : TypeId} {A : Option Addr} {gs : List (Gp ρ)} (h : Gs cs w base k 52 eR A c gs) (hne : eR ≠ 52) (hn : gs.length < 4611686018427387904) :
    Calls Try.prog 44 #[.slice A gs.length c, .func (.func 45) #[] #[]] w fun e w' =>
      e = .returned (.tuple #[]) ∧ ∃ gs', gs'.length = gs.length ∧ gs'.Perm gs ∧ (gs'.Pairwise fun a b => ltK (b.win, b.part) (a.win, a.part) = false) ∧ Gs cs w' base k 52 eR A c gs' ∧ w.grownBy w' (Value.slice A gs.length c).ownBlock := by
  have eg : ∀ args w, (callFunc 45 args).run Try.prog w = .ok (.enter 45 args) w := enters_of Try.func45 (by kernel_rfl) rfl
  rcases hA : A with _ | ⟨g, off, pl⟩
  · subst hA
    have h0 : gs = [] := by
      rcases h.out.2 with ⟨_, h0⟩ | ⟨_, _, _, e, _⟩
      · exact List.eq_nil_of_length_eq_zero h0
      · cases e
    subst h0
    refine (AnyF.slices_SortFunc_none Try.sortG none c _ w).mono ?_
    rintro e w' ⟨rfl, rfl⟩
    exact ⟨rfl, [], rfl, .refl _, List.Pairwise.nil, h, World.grownBy.refl _ _⟩
  · have hform : off = 0 ∧ pl = none ∧ g < w.heap.size := by
      rcases h.out.2 with ⟨e, _⟩ | ⟨g', _, cur, e, _, hg, _⟩
      · rw [hA] at e; cases e
      · rw [hA] at e
        injection e with e
        injection e with e
        injection e with e1 e2 e3
        exact ⟨e2, e3, e1 ▸ Blk.lt (show Blk w g' _ cur from hg)⟩
    obtain ⟨rfl, rfl, hlt⟩ := hform
    subst hA
    have hswo : SWO (ltOf (cfG (ρ := ρ))) := by
      have e : ∀ x y : Gp ρ, ltOf cfG x y = ltK (x.win, x.part) (y.win, y.part) := fun x y => by unfold ltOf ltK; rw [cfG_eq]
      exact ⟨fun x => by rw [e]; exact swoK.irr _, fun x y z h1 h2 => by rw [e] at *; exact swoK.trans _ _ _ h1 h2, fun x y z h1 h2 => by rw [e] at *; exact swoK.neg _ _ _ h1 h2⟩
    have hcon := AnyQ.slices_SortFunc Try.sortG 3 Try.isAgg52 Try.sizeOf52 Gp.cells (fun _ => rfl) (fun x v hv => by simp [Gp.cells] at hv; rcases hv with rfl | rfl | rfl <;> rfl) cfG hswo 45 #[] g 0 c gs.toArray w eg (fun _ _ _ _ x y => cmpG_calls _ x y) h.holds hlt (by simpa using hn)
    rw [List.size_toArray] at hcon
    refine hcon.mono ?_
    rintro e w' ⟨rfl, d', n, os, hp, hs, rfl⟩
    have hsl := sorted_list (d := gs.toArray) (f := ltOf cfG) hp hs
    have hsz : d'.size = gs.length := by have := hp.1; simpa using this
    refine ⟨rfl, d'.toList, by simpa using hsz, hsl.1, hsl.2.imp fun {a b} hab => ?_, h.sorted hne hsz hsl.1 n os, only_sorted w g 0 n d' os⟩
    · have : ltOf cfG b a = ltK (b.win, b.part) (a.win, a.part) := by unfold ltOf ltK; rw [cfG_eq]
      rw [← this]; exact hab
end Go.Proofs.Ytennddlihcamnaa.Sp
