/- What the operations of the heap's regions yield. -/
import Derived.Test.YtophfgijfmdbcaaProg
import Derived.Test.YtophfgijfmdbcaaHpA
import Derived.Test.YtophfgijfmdbcaaHpP
import Derived.Test.YtophfgijfmdbcaaSoK
import Derived.Test.YtophfgijfmdbcaaMeB
namespace Go.Proofs.Ytophfgijfmdbcaa.Hp
open Go.RowKit Go.Proofs.Ytophfgijfmdbcaa Go.Proofs.Ytophfgijfmdbcaa.So
section
variable {P : Program} {o : Oper} {b : Act}
theorem run_nil (W : World) (x : Operand) (ho : o.op = .nilCheck x) {ad : Addr} (hx : b.eval x = .pointer (some ad)) : (execOp b.eval o).run P W = .ok (.value (.pointer (some ad))) W := by
  unfold execOp
  simp only [ho, hx]
  simp [go_sem]
theorem run_mul2 (W : World) (y : Operand) {t t' : TypeId} (ho : o.op = .binOp .mul t (.const (.int .i64 2)) y t') {v r : Int} (hy : b.eval y = .int .i64 v) (hr : IntKind.i64.wrap (2 * v) = r) : (execOp b.eval o).run P W = .ok (.value (.int .i64 r)) W := by
  have hx : b.eval (.const (.int .i64 2)) = .int .i64 2 := rfl
  unfold execOp
  simp only [ho, hx, hy]
  simp [go_sem, hr]
theorem run_half (W : World) (x : Operand) {t t' : TypeId} (ho : o.op = .binOp .quo t x (.const (.int .i64 2)) t') {u : Int} (hx : b.eval x = .int .i64 u) (h0 : 0 ≤ u) (h1 : u ≤ 4611686018427387904) : (execOp b.eval o).run P W = .ok (.value (.int .i64 (u / 2))) W := by
  have hy : b.eval (.const (.int .i64 2)) = .int .i64 2 := rfl
  have hd : u.tdiv 2 = u / 2 := Int.tdiv_eq_ediv_of_nonneg h0
  have hw : IntKind.i64.wrap (u / 2) = u / 2 := IntWalk.i64_in _ (by omega)
  unfold execOp
  simp only [ho, hx, hy]
  simp [go_sem, hd, hw]
theorem run_lss (W : World) (x y : Operand) {t t' : TypeId} (ho : o.op = .binOp .lss t x y t') {u v : Int} (hx : b.eval x = .int .i64 u) (hy : b.eval y = .int .i64 v) (h : u < v) : (execOp b.eval o).run P W = .ok (.value (.bool true)) W := by
  unfold execOp
  simp only [ho, hx, hy]
  simp [go_sem, h]
theorem run_gtr0 (W : World) (x : Operand) {t t' : TypeId} (ho : o.op = .binOp .gtr t x (.const (.int .i64 0)) t') {u : Int} (hx : b.eval x = .int .i64 u) (h : 0 < u) : (execOp b.eval o).run P W = .ok (.value (.bool true)) W := by
  have hy : b.eval (.const (.int .i64 0)) = .int .i64 0 := rfl
  unfold execOp
  simp only [ho, hx, hy]
  simp [go_sem, h]
theorem run_idxv (W : World) (x y : Operand) {t : TypeId} (ho : o.op = .indexAddr t x y) {u v r : Value} (hx : b.eval x = u) (hy : b.eval y = v) (hr : (Instr.indexAt t u v).run P W = .ok r W) : (execOp b.eval o).run P W = .ok (.value r) W := by
  unfold execOp
  simp [ho, hx, hy, hr]
theorem run_callv (W : World) (tf tx ty : Tmp) {ts : Array TypeId} {gc : FuncId} {FR : Array Value} {u v : Value} (ho : o.op = .call { callee := .value (.tmp tf), args := #[.tmp tx, .tmp ty], argTypes := ts })
    (hf : b.eval (.tmp tf) = .func (.func gc) #[] FR) (hx : b.eval (.tmp tx) = u) (hy : b.eval (.tmp ty) = v) (hent : (callFunc gc (#[u, v] ++ FR)).run P W = .ok (.enter gc (#[u, v] ++ FR)) W) : (execOp b.eval o).run P W = .ok (.enter gc (#[u, v] ++ FR)) W := by
  unfold execOp
  simp only [ho, resolve, invoke, hx, hy, hf, Deferred.ofValue, List.map_toArray, List.map_cons, List.map_nil, Array.empty_append, Sem.run_bind, Sem.run_pure, Result.andThen_ok, hent]
end

theorem own_not' {w w' : World} {g base n size : Nat} {e : TypeId} {v : Value} {xs : List Value} (h : w.ownsRow base e size v n xs) (ho : Only g w w') (hne : v.ownBlock ≠ some g) : w'.ownsRow base e size v n xs := h.kept ho (.inr hne)
/-- From w to w' at most blocks gh and g have turned, of those that were there. -/
structure Fr (gh : Nat) (g : Option Nat) (w w' : World) : Prop where
  os : w'.os = w.os
  tape : w'.tape = w.tape
  output : w'.output = w.output
  size : w.heap.size ≤ w'.heap.size
  block : ∀ i, i < w.heap.size → i ≠ gh → some i ≠ g → w'.heap[i]? = w.heap[i]?
theorem Fr.refl (gh : Nat) (g : Option Nat) (w : World) : Fr gh g w w := ⟨rfl, rfl, rfl, Nat.le_refl _, fun _ _ _ _ => rfl⟩
theorem Fr.below {gh : Nat} {g : Option Nat} {w w1 w2 : World} (h : Fr gh g w w1) (hb : Below w1.heap.size w1 w2) : Fr gh g w w2 :=
  ⟨hb.os.trans h.os, hb.tape.trans h.tape, hb.output.trans h.output, Nat.le_trans h.size hb.size, fun i hi h1 h2 => (hb.block i (Nat.lt_of_lt_of_le hi h.size)).trans (h.block i hi h1 h2)⟩
theorem Fr.only {gh k : Nat} {g : Option Nat} {w w1 w2 : World} (h : Fr gh g w w1) (ho : Only k w1 w2) (hk : k = gh ∨ some k = g ∨ w.heap.size ≤ k) : Fr gh g w w2 :=
  ⟨ho.os.trans h.os, ho.tape.trans h.tape, ho.output.trans h.output, Nat.le_trans h.size ho.size, fun i hi h1 h2 => (ho.block i (Nat.lt_of_lt_of_le hi h.size) (fun e => by
    injection e with e
    subst e
    rcases hk with hk | hk | hk
    · exact h1 hk
    · exact h2 hk
    · omega)).trans (h.block i hi h1 h2)⟩
theorem Fr.grown {gh : Nat} {g : Option Nat} {w : World} {o : Obj} {w2 : World} (hb : (w.alloc o).grownBy w2 g) : Fr gh g w w2 :=
  ⟨hb.os, hb.tape, hb.output, by have := hb.size; rw [World.size_alloc] at this; omega, fun i hi _ h2 => (hb.block i (by simp; omega) h2).trans (Below.heap_alloc w o i hi)⟩
theorem Fr.blk {gh k : Nat} {g : Option Nat} {w w' : World} {t : TypeId} {cs : Array Value} (h : Fr gh g w w') (hb : Blk w k t cs) (h1 : k ≠ gh) (h2 : some k ≠ g) : Blk w' k t cs := (h.block k hb.lt h1 h2).trans hb
def ownB (A : Option Addr) : Option Nat := (Value.slice A 0 0).ownBlock
theorem ownB_eq (A : Option Addr) (n c : Nat) : (Value.slice A n c).ownBlock = ownB A := by cases A <;> rfl
/-- A heap of the call's own behind a pointer: its row, its order; the row lies elsewhere. -/
structure HeapAt {α : Type} (e : Enc α) (TH : TypeId) (w : World) (B gh : Nat) (fv : Value) (A : Option Addr) (c : Nat) (d : List α) : Prop where
  blk : Blk w gh TH #[.slice A d.length c, fv]
  low : B ≤ gh
  own : w.ownsRow B e.E e.sz (.slice A d.length c) d.length (d.flatMap e.cs)
theorem HeapAt.below {α : Type} {e : Enc α} {TH : TypeId} {w w' : World} {B gh c : Nat} {fv : Value} {A : Option Addr} {d : List α} (h : HeapAt e TH w B gh fv A c d) (hb : Below w.heap.size w w') : HeapAt e TH w' B gh fv A c d :=
  ⟨h.blk.below hb h.blk.lt, h.low, own_below h.own hb⟩
theorem HeapAt.row {α : Type} {e : Enc α} {TH : TypeId} {w : World} {B gh g c : Nat} {fv : Value} {d : List α} (h : HeapAt e TH w B gh fv (some ⟨g, 0, none⟩) c d) : RowG e w B g c d := h.own
theorem HeapAt.ne {α : Type} {e : Enc α} {TH : TypeId} {w : World} {B gh g c : Nat} {fv : Value} {d : List α} (h : HeapAt e TH w B gh fv (some ⟨g, 0, none⟩) c d) (ht : TH ≠ e.E) : gh ≠ g := by
  rcases h.own.2 with ⟨h1, _⟩ | ⟨g', cap', cur, h1, _, hg, _⟩
  · cases h1
  · injection h1 with h1
    injection h1 with h1
    injection h1 with h1
    subst h1
    exact Blk.ne_ h.blk hg ht
theorem own_at {w : World} {base n c : Nat} {t : TypeId} {size : Nat} {A : Option Addr} {xs : List Value} (h : w.ownsRow base t size (.slice A n c) n xs) (hn : 0 < n) : ∃ g, A = some ⟨g, 0, none⟩ ∧ base ≤ g ∧ g < w.heap.size ∧ n ≤ c := by
  rcases h.2 with ⟨h1, h2⟩ | ⟨g, cap, cur, h1, hb, hg, hnc, _⟩
  · omega
  · injection h1 with e1 _ e2
    subst e1 e2
    exact ⟨g, rfl, hb, Blk.lt hg, hnc⟩
/-- A row, cut behind. -/
theorem own_prefix {w : World} {base g n k cap : Nat} {t : TypeId} {size : Nat} {xs : List Value} (h : w.ownsRow base t size (.slice (some ⟨g, 0, none⟩) n cap) n xs) (hk : k ≤ n) : w.ownsRow base t size (.slice (some ⟨g, 0, none⟩) k cap) k (xs.take (k * size)) := by
  have hl := h.1
  have hle : k * size ≤ n * size := Nat.mul_le_mul_right _ hk
  refine ⟨by rw [List.length_take, hl]; omega, .inr ?_⟩
  rcases h.2 with ⟨h', _⟩ | ⟨g', cap', cur, h', hb, hg, hnc, hcm, hcs, htake⟩
  · cases h'
  · injection h' with e1 _ e2
    injection e1 with e1
    injection e1 with e1
    subst e1 e2
    refine ⟨g, cap, cur, rfl, hb, hg, by omega, hcm, hcs, ?_⟩
    rw [← htake, List.take_take, Nat.min_eq_left hle]
theorem flatMap_take {α : Type} {cells : α → List Value} {size : Nat} (h : ∀ x, (cells x).length = size) : ∀ (l : List α) (k : Nat), (l.flatMap cells).take (k * size) = (l.take k).flatMap cells
  | [], k => by simp
  | x :: r, 0 => by simp
  | x :: r, k + 1 => by
    rw [List.flatMap_cons, List.take_succ_cons, List.flatMap_cons, ← flatMap_take h r k, show (k + 1) * size = (cells x).length + k * size by rw [h, Nat.succ_mul, Nat.add_comm], List.take_length_add_append]
end Go.Proofs.Ytophfgijfmdbcaa.Hp
