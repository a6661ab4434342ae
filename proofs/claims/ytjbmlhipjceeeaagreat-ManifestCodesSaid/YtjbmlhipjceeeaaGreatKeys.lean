/- The order of strings; a map's keys, sorted (plain laws). -/
import Derived.Test.YtjbmlhipjceeeaaGreatMap
import Derived.Sort.Walk0
import Derived.Sort.KeysCollected
namespace Go.Proofs.YtjbmlhipjceeeaaGreat
set_option linter.unusedVariables false
set_option linter.unusedSimpArgs false
open Go.RowKit Go.Sort

theorem before_eq : ∀ a b : List UInt8, bytesBefore a b = decide (a < b)
  | [], [] => by simp [bytesBefore]
  | [], _ :: _ => by simp [bytesBefore]
  | _ :: _, [] => by simp [bytesBefore]
  | a :: r, b :: s => by
    rw [bytesBefore, before_eq r s, Bool.eq_iff_iff]
    simp only [Bool.or_eq_true, decide_eq_true_eq, Bool.and_eq_true, beq_iff_eq, List.cons_lt_cons_iff]
theorem ltS_less (a b : ByteArray) : ltS a b = Op.bytesLess a.toList b.toList := by
  unfold ltS
  rw [before_eq, bytesLess_eq, ByteArray.toList_eq, ByteArray.toList_eq]
theorem ltS_irr (a : ByteArray) : ltS a a = false := WideAt.bytes_irrefl _
theorem ltS_trans {a b c : ByteArray} (h : ltS a b = true) (h' : ltS b c = true) : ltS a c = true := WideShapes.bytes_trans _ _ _ h h'
theorem ltS_tot {a b : ByteArray} (h : a ≠ b) : ltS a b = true ∨ ltS b a = true := WideAt.bytes_total _ _ fun e => h (WideShapes.bytes_inj e)
theorem ltS_asym {a b : ByteArray} (h : ltS a b = true) : ltS b a = false := by
  cases h' : ltS b a
  · rfl
  · have := ltS_trans h h'
    rw [ltS_irr] at this; cases this
theorem ltS_anti {a b : ByteArray} (h : ltS a b = false) (h' : ltS b a = false) : a = b := by
  by_cases e : a = b
  · exact e
  · rcases ltS_tot e with h1 | h1
    · rw [h1] at h; cases h
    · rw [h1] at h'; cases h'
/-- 'not after' is transitive. -/
theorem leS_trans {a b c : ByteArray} (h : ltS b a = false) (h' : ltS c b = false) : ltS c a = false := by
  cases hc : ltS c a
  · rfl
  · by_cases e : a = b
    · rw [e] at hc; rw [hc] at h'; cases h'
    · rcases ltS_tot e with h1 | h1
      · rw [ltS_trans hc h1] at h'; cases h'
      · rw [h1] at h; cases h


theorem strKeys_enc {P : Program} {k : TypeId} {β : Type} (hk : P.underlying k = some .string) (ev : β → Value) (l : List (ByteArray × β)) : strKeys (.map (l.map (encE (strT hk) ev))) = l.map fun p => p.1.data.toList := by
  show (l.map _).map _ = _
  rw [List.map_map]; rfl
theorem sorted_keys {P : Program} {k : TypeId} {β : Type} {hk : P.underlying k = some .string} {ev : β → Value} {l : List (ByteArray × β)} (hs : l.Pairwise fun p q => ltS p.1 q.1 = true) {ss : List (List UInt8)} (h : ss.Perm (strKeys (.map (l.map (encE (strT hk) ev))))) :
    (ss.mergeSort fun x y => decide (x ≤ y)).map encStr = l.map (fun p => Value.string p.1) ∧ ss.length = l.length := by
  rw [strKeys_enc] at h
  refine ⟨?_, by rw [h.length_eq, List.length_map]⟩
  have e : (l.map fun p => p.1.data.toList).mergeSort leB = l.map fun p => p.1.data.toList := by
    refine List.mergeSort_of_pairwise ?_
    rw [List.pairwise_map]
    refine hs.imp fun {p q} hpq => ?_
    unfold ltS at hpq
    rw [before_eq, decide_eq_true_eq] at hpq
    exact decide_eq_true (List.le_of_lt hpq)
  rw [show (ss.mergeSort fun x y => decide (x ≤ y)) = _ from mergeSort_of_perm h, e, List.map_map]
  refine List.map_congr_left fun p _ => ?_
  show Value.string ⟨p.1.data.toList.toArray⟩ = _
  simp
end Go.Proofs.YtjbmlhipjceeeaaGreat
