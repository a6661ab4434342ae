/- Rows of records put together (chapter 9). -/
import Derived.Test.YtennddlihcamnaaProg
import Derived.Test.YtennddlihcamnaaRecH
namespace Go.Proofs.Ytennddlihcamnaa
open Go.RowKit

theorem Try.infoRec : (Try.prog.info? 28).map (fun i => (i.zero, i.size, i.bytes)) = some (some (.agg #[.int .i64 0, .int .i64 0, .slice none 0 0, .string ⟨#[]⟩, .int .i64 0, .bool false]), 6, 72) := by kernel_rfl

def recCells (l : List Rec) : List Value := l.flatMap Rec.vals
theorem recCells_len (l : List Rec) : (recCells l).length = l.length * 6 := by
  induction l with
  | nil => rfl
  | cons x r ih => simp only [recCells, Rec.vals, List.flatMap_cons, List.length_append, List.length_cons, List.length_nil] at ih ⊢; omega
theorem recCells_app (l m : List Rec) : recCells (l ++ m) = recCells l ++ recCells m := by simp [recCells]
theorem recCells_get : ∀ (l : List Rec) (i : Nat) (hi : i < l.length) (j : Nat), j < 6 → (recCells l)[i * 6 + j]? = l[i].vals[j]?
  | [], i, hi, _, _ => absurd hi (by simp)
  | x :: r, 0, _, j, hj => by
    rw [Nat.zero_mul, Nat.zero_add]
    show (x.vals ++ recCells r)[j]? = _
    rw [List.getElem?_append_left (by exact hj)]
    rfl
  | x :: r, i + 1, hi, j, hj => by
    have h := recCells_get r i (by simpa using hi) j hj
    have e : (i + 1) * 6 + j = 6 + (i * 6 + j) := by omega
    rw [e]
    show (x.vals ++ recCells r)[6 + (i * 6 + j)]? = _
    rw [List.getElem?_append_right (by show 6 ≤ _; omega)]
    show (recCells r)[6 + (i * 6 + j) - 6]? = _
    rw [Nat.add_sub_cancel_left]
    exact h
theorem rec_one (l : List Rec) : ∀ u ∈ recCells l, u.oneCell' = true := by
  intro u hu
  obtain ⟨x, _, hu⟩ := List.mem_flatMap.1 hu
  simp [Rec.vals] at hu
  rcases hu with rfl | rfl | rfl | rfl | rfl | rfl <;> rfl
theorem Recs.reads {w : World} {B : Nat} {A : Option Addr} {l : List Rec} (h : Recs w B A l) : Reads w B 6 A l.length (recCells l) := by
  refine ⟨recCells_len l, fun hp => ?_⟩
  obtain ⟨b, off, e, hb, hc⟩ := h.cells hp
  refine ⟨b, off, e, hb, fun j u hu => ?_⟩
  have hj : j < l.length * 6 := by rw [← recCells_len]; exact (List.getElem?_eq_some_iff.1 hu).1
  have hi : j / 6 < l.length := by omega
  have e2 : j = j / 6 * 6 + j % 6 := by omega
  rw [e2] at hu ⊢
  rw [recCells_get l _ hi _ (by omega), recAt_eq hi] at hu
  exact hc _ hi _ _ hu
theorem Recs.of_reads {w : World} {B : Nat} {A : Option Addr} {l : List Rec} (h : Reads w B 6 A l.length (recCells l)) (he : ∀ x ∈ l, x.ok w B) : Recs w B A l := by
  refine ⟨fun hp => ?_, fun i hi => by rw [← recAt_eq hi]; exact he _ (List.getElem_mem hi)⟩
  obtain ⟨b, off, e, hb, hc⟩ := h.2 hp
  refine ⟨b, off, e, hb, fun i hi j u hu => hc _ u ?_⟩
  rw [← recAt_eq hi] at hu
  have hj : j < 6 := (List.getElem?_eq_some_iff.1 hu).1
  rw [recCells_get l i hi j hj]
  exact hu
theorem recCells_drop : ∀ (l : List Rec) (k : Nat), (recCells l).drop (k * 6) = recCells (l.drop k)
  | l, 0 => by simp
  | [], k + 1 => by simp [recCells]
  | x :: r, k + 1 => by
    have e : (k + 1) * 6 = x.vals.length + k * 6 := by show _ = 6 + _; omega
    show (x.vals ++ recCells r).drop ((k + 1) * 6) = _
    rw [e, List.drop_append, List.drop_eq_nil_of_le (by omega), List.nil_append, Nat.add_sub_cancel_left]
    exact recCells_drop r k
theorem recCells_take : ∀ (l : List Rec) (k : Nat), (recCells l).take (k * 6) = recCells (l.take k)
  | l, 0 => by simp [recCells]
  | [], k + 1 => by simp [recCells]
  | x :: r, k + 1 => by
    have e : (k + 1) * 6 = x.vals.length + k * 6 := by show _ = 6 + _; omega
    show (x.vals ++ recCells r).take ((k + 1) * 6) = x.vals ++ recCells (r.take k)
    rw [e, List.take_append, List.take_of_length_le (by omega), Nat.add_sub_cancel_left, recCells_take r k]
theorem recs_drop {w : World} {B k : Nat} {A : Option Addr} {l : List Rec} (h : Recs w B A l) (hk : k ≤ l.length) : Reads w B 6 (A.map (·.add (k * 6))) (l.length - k) (recCells (l.drop k)) := by
  have := h.reads.cut (cap := l.length + 1) hk (by omega)
  rw [if_neg (by omega), recCells_drop] at this
  exact this
theorem recs_take {w : World} {B k : Nat} {A : Option Addr} {l : List Rec} (h : Recs w B A l) (hk : k ≤ l.length) : Reads w B 6 A k (recCells (l.take k)) := by
  have := h.reads.take hk
  rw [recCells_take] at this
  exact this

/-! ### the order counts for nothing -/
theorem tK_sum (l : List Rec) : tK l l.length = (l.map weightB).sum := by
  have key : ∀ k, k ≤ l.length → tK l k = ((l.take k).map weightB).sum := by
    intro k
    induction k with
    | zero => intro _; rfl
    | succ k ih =>
      intro hk
      have e : l.take (k + 1) = l.take k ++ [recAt l k] := by rw [List.take_add_one, List.getElem?_eq_getElem (by omega), ← recAt_eq (by omega)]; rfl
      rw [e, List.map_append, List.sum_append, ← ih (by omega)]
      simp [tK]
  rw [key _ (Nat.le_refl _), List.take_length]
theorem allR_mem (l : List Rec) : allR l = true ↔ ∀ x ∈ l, recB x = true := by
  unfold allR
  rw [decide_eq_true_iff]
  constructor
  · intro h x hx
    obtain ⟨i, hi, rfl⟩ := List.getElem_of_mem hx
    rw [recAt_eq hi]
    exact h i hi
  · intro h i hi
    rw [← recAt_eq hi]
    exact h _ (List.getElem_mem hi)
theorem chk_perm {l m : List Rec} (h : l.Perm m) (maker seq : Int) : chkB maker seq l = chkB maker seq m := by
  have h1 := h.length_eq
  have h2 : allR l = allR m := by
    rw [Bool.eq_iff_iff, allR_mem, allR_mem]
    exact ⟨fun hx x hm => hx x (h.mem_iff.2 hm), fun hx x hm => hx x (h.mem_iff.1 hm)⟩
  have h3 : tK l l.length = tK m m.length := by
    rw [tK_sum, tK_sum]
    exact (h.map weightB).sum_nat
  unfold chkB
  rw [h2, h3, h1]
theorem chk_turn (l : List Rec) (k : Nat) (maker seq : Int) : chkB maker seq (l.drop k ++ l.take k) = chkB maker seq l :=
  chk_perm ((List.perm_append_comm).trans (by rw [List.take_append_drop])) maker seq
end Go.Proofs.Ytennddlihcamnaa
