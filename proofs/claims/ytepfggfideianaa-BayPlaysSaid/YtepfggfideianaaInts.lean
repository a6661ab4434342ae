/- Rows of integers (int, int64: one kind): a slice that reads as a list of integers; a row of the call's own. -/
import Derived.Test.YtepfggfideianaaProg
import Derived.Test.YtepfggfideianaaMem
namespace Go.Proofs.Ytepfggfideianaa
open Go.RowKit

/-- A slice of integers reads. -/
def I64s (w : World) (B : Nat) (A : Option Addr) (l : List Int) : Prop := Reads w B 1 A l.length (l.map (Value.int .i64))
theorem i64_one (l : List Int) : ∀ u ∈ l.map (Value.int .i64), u.oneCell' = true := by
  intro u hu
  obtain ⟨b, _, rfl⟩ := List.mem_map.1 hu
  rfl
theorem I64s.cell {w : World} {B : Nat} {A : Option Addr} {l : List Int} (h : I64s w B A l) (hp : 0 < l.length) : ∃ b off, A = some ⟨b, off, none⟩ ∧ b < B ∧ ∀ j, j < l.length → w.cell? ⟨b, off + j, none⟩ = some (.int .i64 (l.getD j 0)) := by
  obtain ⟨b, off, e, hb, hc⟩ := h.2 (by omega)
  refine ⟨b, off, e, hb, fun j hj => hc j _ ?_⟩
  rw [List.getElem?_map, List.getElem?_eq_getElem hj]
  simp [List.getD, List.getElem?_eq_getElem hj]
theorem I64s.below {w w' : World} {B : Nat} {A : Option Addr} {l : List Int} (h : I64s w B A l) (hb : Below B w w') : I64s w' B A l := Reads.below h hb
theorem I64s.more {w : World} {B B' : Nat} {A : Option Addr} {l : List Int} (h : I64s w B A l) (hb : B ≤ B') : I64s w B' A l := Reads.more h hb
theorem I64s.to {w w' : World} {B B' : Nat} {A : Option Addr} {l : List Int} (h : I64s w B A l) (hb : Below B w w') (hB : B ≤ B') : I64s w' B' A l := (h.below hb).more hB
theorem I64s.nil_ {w : World} {B : Nat} {A : Option Addr} : I64s w B A [] := ⟨rfl, fun h => absurd h (by simp)⟩
theorem own_i64 {w : World} {base : Nat} {e : TypeId} {A : Option Addr} {c : Nat} {l : List Int} (h : w.ownsRow base e 1 (.slice A l.length c) l.length (l.map (Value.int .i64))) : I64s w w.heap.size A l := Reads.of_own h
theorem i64_get {l : List Int} {j : Nat} (hj : j < l.length) : (l.map (Value.int .i64))[j]? = some (.int .i64 (l.getD j 0)) := by
  rw [List.getElem?_map, List.getElem?_eq_getElem hj]; simp [List.getD, List.getElem?_eq_getElem hj]
theorem own_snocI {w : World} {base : Nat} {t : TypeId} {v : Value} {l : List Int} {x d : Int} {n : Nat} (h : w.ownsRow base t 1 v (n + 1) (l.map (Value.int .i64) ++ [.int .i64 x])) (hx : x = d) (hn : n = l.length) :
    w.ownsRow base t 1 v (l ++ [d]).length ((l ++ [d]).map (Value.int .i64)) := by
  subst hx; subst hn; simpa using h
theorem take_getD {T : List Int} {k : Nat} (hk : k < T.length) : T.take (k + 1) = T.take k ++ [T.getD k 0] := by
  rw [List.take_succ_eq_append_getElem hk]; simp [List.getD, List.getElem?_eq_getElem hk]
theorem drop_getD {T : List Int} {k : Nat} (hk : k < T.length) : T.drop k = T.getD k 0 :: T.drop (k + 1) := by
  rw [List.drop_eq_getElem_cons hk]; simp [List.getD, List.getElem?_eq_getElem hk]

/-! two rows held against each other -/
theorem eq_step {l m : List Int} {k : Nat} (hl : l.length = m.length) (hk : k < l.length) (h : l.take k = m.take k) (he : l.getD k 0 = m.getD k 0) : l.take (k + 1) = m.take (k + 1) := by
  rw [take_getD hk, take_getD (by omega), h, he]
theorem eq_end {l m : List Int} {k : Nat} (hl : l.length = m.length) (hk : l.length ≤ k) (h : l.take k = m.take k) : (l == m) = true := by
  rw [List.take_of_length_le hk, List.take_of_length_le (by omega)] at h
  simpa using h
theorem ne_at {l m : List Int} {k : Nat} (he : l.getD k 0 ≠ m.getD k 0) : (l == m) = false := by
  rw [beq_eq_false_iff_ne]; rintro rfl; exact he rfl
theorem ne_len {l m : List Int} (h : l.length ≠ m.length) : (l == m) = false := by
  rw [beq_eq_false_iff_ne]; rintro rfl; exact h rfl
end Go.Proofs.Ytepfggfideianaa
