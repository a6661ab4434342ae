/- Manifests (chapter 13): how entries, marks and owners lie; plain words for what is right. -/
import Derived.Test.YtjbmlhipjceeeaaProg
import Derived.Test.YtjbmlhipjceeeaaPartC
import Derived.Test.YtjbmlhipjceeeaaMParD
import Derived.Test.YtjbmlhipjceeeaaKeys
namespace Go.Proofs.Ytjbmlhipjceeeaa.Mf
open Go.RowKit Go.Proofs.Ytjbmlhipjceeeaa

def gt {α : Type} [Inhabited α] (l : List α) (i : Nat) : α := l.getD i default
theorem gt_eq {α : Type} [Inhabited α] {l : List α} {i : Nat} (h : i < l.length) : l[i] = gt l i := by simp [gt, List.getD, List.getElem?_eq_getElem h]
theorem gt_mem {α : Type} [Inhabited α] {l : List α} {i : Nat} (h : i < l.length) : gt l i ∈ l := by rw [← gt_eq h]; exact List.getElem_mem _
theorem gt_at {α : Type} [Inhabited α] {l : List α} {i : Nat} (h : i < l.length) : l[i]? = some (gt l i) := by rw [List.getElem?_eq_getElem h, gt_eq h]
theorem mem_gt {α : Type} [Inhabited α] {l : List α} {x : α} (h : x ∈ l) : ∃ i, i < l.length ∧ gt l i = x := by
  obtain ⟨i, hi, rfl⟩ := List.getElem_of_mem h
  exact ⟨i, hi, (gt_eq hi).symm⟩
theorem take_gt {α : Type} [Inhabited α] {l : List α} {k : Nat} (hk : k < l.length) : l.take (k + 1) = l.take k ++ [gt l k] := by rw [List.take_succ_eq_append_getElem hk, gt_eq hk]
theorem gt_take {α : Type} [Inhabited α] {l : List α} {i k : Nat} (hi : i < k) (hk : k ≤ l.length) : gt (l.take k) i = gt l i := by
  rw [← gt_eq (show i < (l.take k).length by rw [List.length_take]; omega), ← gt_eq (show i < l.length by omega), List.getElem_take]

/-- An entry, a mark, an owner. -/
structure En where
  key : ByteArray
  window : Int
  part : ByteArray
  first : Int
  last : Int
  rows : Int
  size : Int
  sum : Int
  born : Int
deriving Inhabited, DecidableEq
structure Mk where
  maker : Int
  seq : Int
deriving Inhabited, DecidableEq
structure Ow where
  agent : Int
  life : Int
  count : Int
deriving Inhabited, DecidableEq
def En.cs (x : En) : List Value := [.string x.key, .int .i64 x.window, .string x.part, .int .i64 x.first, .int .i64 x.last, .int .i64 x.rows, .int .i64 x.size, .int .u32 x.sum, .int .i64 x.born]
def Mk.cs (x : Mk) : List Value := [.int .i64 x.maker, .int .i64 x.seq]
def Ow.cs (x : Ow) : List Value := [.int .i64 x.agent, .int .i64 x.life, .int .i64 x.count]
/-- What can lie in memory. -/
structure En.Ok (x : En) : Prop where
  key : x.key.size ≤ 140737488351232
  part : x.part.size ≤ 140737488351232
  sum : 0 ≤ x.sum ∧ x.sum ≤ 4294967295
theorem ecs_len (x : En) : x.cs.length = 9 := rfl
theorem mcs_len (x : Mk) : x.cs.length = 2 := rfl
theorem ocs_len (x : Ow) : x.cs.length = 3 := rfl
theorem ecs_one (l : List En) : ∀ u ∈ l.flatMap En.cs, u.oneCell' = true := by
  intro u hu
  obtain ⟨x, _, hx⟩ := List.mem_flatMap.1 hu
  simp [En.cs] at hx
  rcases hx with rfl | rfl | rfl | rfl | rfl | rfl | rfl | rfl | rfl <;> rfl
theorem mcs_one (l : List Mk) : ∀ u ∈ l.flatMap Mk.cs, u.oneCell' = true := by
  intro u hu
  obtain ⟨x, _, hx⟩ := List.mem_flatMap.1 hu
  simp [Mk.cs] at hx
  rcases hx with rfl | rfl <;> rfl
theorem ocs_one (l : List Ow) : ∀ u ∈ l.flatMap Ow.cs, u.oneCell' = true := by
  intro u hu
  obtain ⟨x, _, hx⟩ := List.mem_flatMap.1 hu
  simp [Ow.cs] at hx
  rcases hx with rfl | rfl | rfl <;> rfl

/-- Things that lie in a row, read cell by cell. -/
theorem row_at {α : Type} [Inhabited α] {cs : α → List Value} {k : Nat} (hcs : ∀ x, (cs x).length = k) {w : World} {B : Nat} {A : Option Addr} {l : List α} (h : Reads w B k A l.length (l.flatMap cs)) (hp : 0 < l.length) :
    ∃ b off, A = some ⟨b, off, none⟩ ∧ b < B ∧ ∀ i, i < l.length → ∀ j v, (cs (gt l i))[j]? = some v → w.cell? ⟨b, off + i * k + j, none⟩ = some v := by
  obtain ⟨b, off, e, hb, hc⟩ := h.2 hp
  refine ⟨b, off, e, hb, fun i hi j v hv => ?_⟩
  have hj : j < k := by rw [← hcs (gt l i)]; exact (List.getElem?_eq_some_iff.1 hv).1
  rw [Nat.add_assoc]
  refine hc _ _ ?_
  rw [flatMap_get hcs l i hi j hj, gt_eq hi, hv]
theorem row_cell {α : Type} [Inhabited α] {cs : α → List Value} {k : Nat} (hcs : ∀ x, (cs x).length = k) {w : World} {B b off : Nat} {l : List α} (h : Reads w B k (some ⟨b, off, none⟩) l.length (l.flatMap cs)) {i : Nat} (hi : i < l.length) {j : Nat} {v : Value} (hv : (cs (gt l i))[j]? = some v) : w.cell? ⟨b, off + i * k + j, none⟩ = some v := by
  obtain ⟨b', off', e, _, hc⟩ := row_at hcs h (by omega)
  injection e with e
  injection e with e1 e2
  subst e1 e2
  exact hc i hi j v hv
theorem row_addr {k : Nat} {w : World} {B n : Nat} {A : Option Addr} {xs : List Value} (h : Reads w B k A n xs) (hp : 0 < n) : ∃ b off, A = some ⟨b, off, none⟩ ∧ b < B := by
  obtain ⟨b, off, e, hb, _⟩ := h.2 hp
  exact ⟨b, off, e, hb⟩

/-- The library's variable that strings.Index reads. -/
def Sh (w : World) : Prop := ∃ m, w.cell? ⟨0, 0, none⟩ = some (.int .i64 m)
theorem Sh.lt {w : World} (h : Sh w) : 0 < w.heap.size := by
  obtain ⟨m, h⟩ := h
  exact World.block_lt_of_cell? w _ h
theorem Sh.below {w w' : World} {B : Nat} (h : Sh w) (hb : Below B w w') (hB : 0 < B) : Sh w' := by
  obtain ⟨m, h⟩ := h
  exact ⟨m, (hb.cell (p := ⟨0, 0, none⟩) hB).trans h⟩

/-! ### what is right -/
def numB (n least : Int) : Bool := decide (least ≤ n) && decide (n < 1099511627776)
def okK (c : UInt8) : Prop := 33 ≤ c.toNat ∧ c.toNat ≤ 126
instance (c : UInt8) : Decidable (okK c) := by unfold okK; infer_instance
def KeyP (s : ByteArray) : Prop := 1 ≤ s.size ∧ s.size ≤ 40 ∧ ∀ i, i < s.size → okK (Lb.at8 s i)
instance (s : ByteArray) : Decidable (KeyP s) := by unfold KeyP; infer_instance
def keyB (s : ByteArray) : Bool := decide (KeyP s)
open Classical in
noncomputable def parB (s : ByteArray) : Bool := decide (∃ l, Lb.ParP s.data.toList l)
noncomputable def enB (x : En) : Bool := parB x.part && keyB x.key && numB x.window 0 && decide (0 ≤ x.first) && decide (x.first ≤ x.last) && decide (x.last < 1099511627776) && decide (1 ≤ x.rows) && decide (x.rows ≤ 2048) && decide (1 ≤ x.size) && decide (x.size ≤ 262144) && numB x.born 0
def mkB (x : Mk) : Bool := decide (1 ≤ x.maker) && decide (x.maker ≤ 64) && numB x.seq 1
def owB (x : Ow) : Bool := decide (1 ≤ x.agent) && decide (x.agent ≤ 8) && numB x.life 1 && numB x.count 1
/-- Each is right, and each stands behind the one before it. -/
def RisP {α : Type} [Inhabited α] (r : α → Bool) (lt : α → α → Bool) (l : List α) : Prop := ∀ i, i < l.length → r (gt l i) = true ∧ (0 < i → lt (gt l (i - 1)) (gt l i) = true)
instance {α : Type} [Inhabited α] (r : α → Bool) (lt : α → α → Bool) (l : List α) : Decidable (RisP r lt l) := by unfold RisP; infer_instance
def risB {α : Type} [Inhabited α] (r : α → Bool) (lt : α → α → Bool) (l : List α) : Bool := decide (RisP r lt l)
def ltE (x y : En) : Bool := ltS x.key y.key
def ltM (x y : Mk) : Bool := decide (x.maker < y.maker)
def ltO (x y : Ow) : Bool := decide (x.agent < y.agent)
def ltP (x y : Mk) : Bool := decide (x.maker * 1099511627776 + x.seq < y.maker * 1099511627776 + y.seq)
end Go.Proofs.Ytjbmlhipjceeeaa.Mf
