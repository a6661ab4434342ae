/- Lists of rows in a row of the call's own; what is merged is counted (chapter 16). -/
import Derived.Test.YtophfgijfmdbcaaProg
import Derived.Test.YtophfgijfmdbcaaMgH
import Derived.Test.YtophfgijfmdbcaaMeJ
namespace Go.Proofs.Ytophfgijfmdbcaa.Mg
open Go.RowKit Go.Proofs.Ytophfgijfmdbcaa Go.Proofs.Ytophfgijfmdbcaa.So

theorem Try.infoRows : (Try.prog.info? 47).map (fun i => (i.zero, i.size, i.bytes)) = some (some (.slice none 0 0), 1, 24) := by kernel_rfl
theorem lst_one (L : List Lst) : ∀ u ∈ L.map Lst.v, u.oneCell' = true := by
  intro u hu
  obtain ⟨x, -, rfl⟩ := List.mem_map.1 hu
  rfl
theorem mem_rows {L : List Lst} {x : Rw} (h : x ∈ mRows (lists L)) : x ∈ lAll L := by
  unfold mRows at h
  rw [mAll_lists] at h
  by_cases h1 : (lists L).all risB = true
  · rw [if_pos h1] at h
    by_cases h2 : risB (isort ltR (lAll L)) = true
    · rw [if_pos h2] at h
      exact (isort_perm _).mem_iff.1 h
    · rw [if_neg h2] at h; cases h
  · rw [if_neg h1] at h; cases h
theorem rows_len (L : List Lst) : (mRows (lists L)).length ≤ (lAll L).length := by
  unfold mRows
  rw [mAll_lists]
  split
  · split
    · rw [isort_len]; exact Nat.le_refl _
    · exact Nat.zero_le _
  · exact Nat.zero_le _
theorem Lists.fits {w : World} {B : Nat} {A : Option Addr} {L : List Lst} (h : Lists w B A L) : ∀ x ∈ mRows (lists L), FitW x := fun x hx =>
  have k := h.row_ok x (mem_rows hx)
  ⟨k.fit, k.len, k.text, k.time, k.value⟩
theorem Lists.of_own {w : World} {base n c : Nat} {A : Option Addr} {L : List Lst} (h : w.ownsRow base 47 1 (.slice A n c) n (L.map Lst.v)) (hn : L.length = n) (hL : ∀ x ∈ L, x.ok w w.heap.size) : Lists w w.heap.size A L := by
  subst hn
  exact ⟨Reads.of_own h, hL⟩
theorem SameL.via {l m k : List Rw} (h : SameL l k) (h' : SameL m k) : SameL l m := Eq.trans h h'.symm
theorem rot_perm (L : List Lst) (k : Nat) : (lists (L.drop k ++ L.take k)).Perm (lists L) := by
  unfold lists
  refine List.Perm.map _ (List.perm_append_comm.trans ?_)
  rw [List.take_append_drop]
theorem rot_len (L : List Lst) (k : Nat) : (lAll (L.drop k ++ L.take k)).length = (lAll L).length := by
  have := congrArg (fun M => (lAll M).length) (List.take_append_drop k L)
  simp only [lAll, List.flatMap_append, List.length_append] at this ⊢
  omega
end Go.Proofs.Ytophfgijfmdbcaa.Mg
