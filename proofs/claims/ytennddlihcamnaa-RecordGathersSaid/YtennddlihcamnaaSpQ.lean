/- Plain laws: both ways of grouping come to one; what a sort of the groups leaves is in order; the order by window, then part. -/
import Derived.Test.YtennddlihcamnaaSpPM
import Derived.Test.YtennddlihcamnaaTri
import Derived.Sort.Statements
namespace Go.Proofs.Ytennddlihcamnaa.Sp
set_option linter.unusedVariables false
set_option linter.unusedSimpArgs false
open Go.Proofs.Ytennddlihcamnaa Go.Proofs.Ytennddlihcamnaa.So

section
variable {κ ρ : Type} [DecidableEq κ] {key : ρ → κ} {lt : κ → κ → Bool}
theorem foldG_go : ∀ (S T : List ρ) (gs : List (κ × List ρ)), Inv key T gs → Inv key (T ++ S) (S.foldl (stepG key) gs)
  | [], T, gs, h => by rw [List.append_nil]; exact h
  | x :: S, T, gs, h => by
    have := foldG_go S (T ++ [x]) _ (h.upd (stepG_upd (key := key) (x := x)))
    rwa [List.append_assoc] at this
theorem foldR_go (hirr : ∀ k, lt k k = false) (htr : ∀ x y z, lt x y = true → lt y z = true → lt x z = true) (htot : ∀ a b, a ≠ b → lt a b = true ∨ lt b a = true) :
    ∀ (S T : List ρ) (gs : List (κ × List ρ)), Inv key T gs → (gs.Pairwise fun g h => lt g.1 h.1 = true) → Inv key (T ++ S) (S.foldl (stepR key lt) gs) ∧ (S.foldl (stepR key lt) gs).Pairwise fun g h => lt g.1 h.1 = true
  | [], T, gs, h, hs => by rw [List.append_nil]; exact ⟨h, hs⟩
  | x :: S, T, gs, h, hs => by
    obtain ⟨h1, h2⟩ := stepR_upd (key := key) (x := x) hirr htr hs
    have := foldR_go hirr htr htot S (T ++ [x]) _ (h.upd h1) (h2 htot)
    rwa [List.append_assoc] at this
def foldG (key : ρ → κ) (S : List ρ) : List (κ × List ρ) := S.foldl (stepG key) []
def foldR (key : ρ → κ) (lt : κ → κ → Bool) (S : List ρ) : List (κ × List ρ) := S.foldl (stepR key lt) []
theorem foldG_inv (S : List ρ) : Inv key S (foldG key S) := foldG_go S [] [] Inv.nil
theorem Inv.perm {S : List ρ} {gs gs' : List (κ × List ρ)} (h : Inv key S gs) (hp : gs'.Perm gs) : Inv key S gs' :=
  ⟨((hp.map Prod.fst).nodup_iff).2 h.nd, fun g hg => h.rows g (hp.mem_iff.1 hg), fun y hy => ((hp.map Prod.fst).mem_iff).2 (h.all y hy), fun g hg => h.full g (hp.mem_iff.1 hg)⟩
theorem Inv.rises {S : List ρ} {gs : List (κ × List ρ)} (h : Inv key S gs) (htot : ∀ a b, a ≠ b → lt a b = true ∨ lt b a = true) (hs : gs.Pairwise fun g h => lt h.1 g.1 = false) : gs.Pairwise fun g h => lt g.1 h.1 = true := by
  have nd := h.nd
  rw [List.nodup_iff_pairwise_ne, List.pairwise_map, List.pairwise_iff_getElem] at nd
  rw [List.pairwise_iff_getElem] at hs ⊢
  intro i j hi hj hij
  rcases htot _ _ (nd i j hi hj hij) with h1 | h1
  · exact h1
  · rw [hs i j hi hj hij] at h1; cases h1
/-- Groups made as the program makes them, put in order, are the document's. -/
theorem groups_eq (hirr : ∀ k, lt k k = false) (htr : ∀ x y z, lt x y = true → lt y z = true → lt x z = true) (htot : ∀ a b, a ≠ b → lt a b = true ∨ lt b a = true)
    {S : List ρ} {gs : List (κ × List ρ)} (hp : gs.Perm (foldG key S)) (hs : gs.Pairwise fun g h => lt h.1 g.1 = false) : gs = foldR key lt S := by
  have h1 := (foldG_inv (key := key) S).perm hp
  have h2 := foldR_go (key := key) hirr htr htot S [] [] Inv.nil List.Pairwise.nil
  exact h1.eq hirr htr h2.1 (h1.rises htot hs) h2.2
end
/-- What a sort leaves, as lists. -/
theorem sorted_list {α : Type} [Inhabited α] {f : α → α → Bool} {d d' : Array α} (hp : Go.Sort.PermIn 0 d.size d d') (hs : Go.Sort.SortedIn f 0 d.size d') :
    d'.toList.Perm d.toList ∧ d'.toList.Pairwise fun a b => f b a = false := by
  obtain ⟨h1, _, h2⟩ := hp
  refine ⟨?_, List.pairwise_iff_getElem.2 fun i j hi hj hij => ?_⟩
  · have e1 : d'.extract 0 d.size = d' := by rw [← h1]; exact Array.extract_size
    have e2 : d.extract 0 d.size = d := Array.extract_size
    rwa [e1, e2] at h2
  · have hi' : i < d'.size := by simpa using hi
    have hj' : j < d'.size := by simpa using hj
    have := hs i j (Nat.zero_le _) hij (by omega)
    rw [getElem!_pos d' i hi', getElem!_pos d' j hj'] at this
    simpa using this
theorem cmpS_le {x y : ByteArray} : cmpS x y ≤ 0 ↔ ¬ (y.toList < x.toList) := by
  unfold cmpS lessS
  simp only [bytesLess_eq, decide_eq_true_eq]
  by_cases h1 : x.toList < y.toList
  · rw [if_pos h1]
    exact ⟨fun _ h2 => List.lt_irrefl _ (List.lt_trans h1 h2), fun _ => by omega⟩
  · rw [if_neg h1]
    by_cases h2 : y.toList < x.toList
    · rw [if_pos h2]
      exact ⟨fun h => by omega, fun h => absurd h2 h⟩
    · rw [if_neg h2]
      exact ⟨fun _ => h2, fun _ => by omega⟩
theorem triS : Tri cmpS where
  anti x y := by
    unfold cmpS lessS
    simp only [bytesLess_eq, decide_eq_true_eq]
    by_cases h1 : x.toList < y.toList
    · have h2 : ¬ y.toList < x.toList := fun h2 => List.lt_irrefl _ (List.lt_trans h1 h2)
      rw [if_pos h1, if_neg h2, if_pos h1]
      rfl
    · rw [if_neg h1]
      by_cases h2 : y.toList < x.toList
      · rw [if_pos h2, if_neg h1, if_pos h2]
      · rw [if_neg h2, if_neg h2, if_neg h1]; rfl
  tr x y z h1 h2 := by
    rw [cmpS_le] at *
    rw [List.not_lt] at *
    exact List.le_trans h1 h2
/-- By window, then part. -/
def cmpK (a b : Int × ByteArray) : Int := if cmpI a.1 b.1 = 0 then cmpS a.2 b.2 else cmpI a.1 b.1
def ltK (a b : Int × ByteArray) : Bool := decide (cmpK a b < 0)
theorem triK : Tri cmpK := (triI.on Prod.fst).lex (triS.on Prod.snd)
theorem swoK : Swo ltK := triK.swo fun _ _ => rfl
theorem cmpI_zero {a b : Int} (h : cmpI a b = 0) : a = b := by
  unfold cmpI at h
  by_cases h1 : a < b
  · rw [if_pos h1] at h; omega
  · rw [if_neg h1] at h
    by_cases h2 : b < a
    · rw [if_pos h2] at h; omega
    · omega
theorem cmpS_zero {a b : ByteArray} (h : cmpS a b = 0) : a = b := by
  unfold cmpS at h
  by_cases h1 : lessS a b = true
  · rw [if_pos h1] at h; omega
  · rw [if_neg h1] at h
    by_cases h2 : lessS b a = true
    · rw [if_pos h2] at h; omega
    · have := less_tri (by simpa [lessS] using h1) (by simpa [lessS] using h2)
      rw [ByteArray.toList_eq, ByteArray.toList_eq] at this
      exact ByteArray.ext (Array.toList_inj.1 this)
theorem totK (a b : Int × ByteArray) (hne : a ≠ b) : ltK a b = true ∨ ltK b a = true := by
  unfold ltK
  rw [decide_eq_true_iff, decide_eq_true_iff, triK.anti a b]
  by_cases h : cmpK a b = 0
  · exfalso
    unfold cmpK at h
    by_cases h1 : cmpI a.1 b.1 = 0
    · rw [if_pos h1] at h
      exact hne (Prod.ext (cmpI_zero h1) (cmpS_zero h))
    · rw [if_neg h1] at h; exact h1 h
  · omega
end Go.Proofs.Ytennddlihcamnaa.Sp
