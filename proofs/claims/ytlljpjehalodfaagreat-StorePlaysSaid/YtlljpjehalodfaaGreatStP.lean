/- Laws of sorted lists with sums; what of a world stays (chapter 14; plain laws). -/
import Derived.Test.YtlljpjehalodfaaGreatMap
import Derived.Test.YtlljpjehalodfaaGreatKeys
namespace Go.Proofs.YtlljpjehalodfaaGreat
open Go.RowKit
namespace St

section
variable {κ β : Type} [DecidableEq κ]
def Nd (l : List (κ × β)) : Prop := l.Pairwise fun p q => p.1 ≠ q.1
theorem mget_of_mem : ∀ {l : List (κ × β)} {x : κ} {v : β}, Nd l → (x, v) ∈ l → mget l x = some v
  | [], _, _, _, h => by cases h
  | a :: r, x, v, hn, h => by
    rw [mget_cons]
    have hn' := List.pairwise_cons.1 hn
    rcases List.mem_cons.1 h with e | h
    · rw [← e, if_pos rfl]
    · rw [if_neg (hn'.1 _ h), mget_of_mem hn'.2 h]
theorem mdel_none {l : List (κ × β)} {x : κ} (h : mget l x = none) : mdel l x = l := by
  unfold mdel
  exact List.filter_eq_self.2 fun p hp => by simpa using mget_none.1 h p hp
theorem nd_mdel {l : List (κ × β)} (h : Nd l) (x : κ) : Nd (mdel l x) := List.Pairwise.sublist List.filter_sublist h
theorem mdel_sub {l : List (κ × β)} {x : κ} {p : κ × β} (h : p ∈ mdel l x) : p ∈ l := (List.mem_filter.1 h).1
theorem mdel_len_le (l : List (κ × β)) (x : κ) : (mdel l x).length ≤ l.length := List.length_filter_le _ _
theorem mput_len_le (lt : κ → κ → Bool) (l : List (κ × β)) (x : κ) (v : β) : (mput lt l x v).length ≤ l.length + 1 := by
  unfold mput
  rw [(mins_perm _).length_eq, List.length_cons]
  have := mdel_len_le l x
  omega
def msum (f : β → Nat) (l : List (κ × β)) : Nat := (l.map fun p => f p.2).sum
omit [DecidableEq κ] in
theorem msum_nil (f : β → Nat) : msum f ([] : List (κ × β)) = 0 := rfl
omit [DecidableEq κ] in
theorem msum_cons (f : β → Nat) (p : κ × β) (l : List (κ × β)) : msum f (p :: l) = f p.2 + msum f l := by simp [msum]
omit [DecidableEq κ] in
theorem msum_perm {f : β → Nat} {l l' : List (κ × β)} (h : l.Perm l') : msum f l = msum f l' := (h.map _).sum_nat
theorem msum_mput (f : β → Nat) (lt : κ → κ → Bool) (l : List (κ × β)) (x : κ) (v : β) : msum f (mput lt l x v) = msum f (mdel l x) + f v := by
  unfold mput
  rw [msum_perm (mins_perm _), msum_cons, Nat.add_comm]
theorem msum_mdel (f : β → Nat) : ∀ {l : List (κ × β)} {x : κ} {v : β}, Nd l → mget l x = some v → msum f l = msum f (mdel l x) + f v
  | [], _, _, _, h => by cases h
  | a :: r, x, v, hn, h => by
    have hn' := List.pairwise_cons.1 hn
    rw [mget_cons] at h
    unfold mdel
    rw [List.filter_cons, msum_cons]
    by_cases e : a.1 = x
    · rw [if_pos e] at h
      rw [if_neg (by simpa using e)]
      have : mdel r x = r := mdel_none (mget_none.2 fun p hp => fun e' => hn'.1 p hp (e.trans e'.symm))
      unfold mdel at this
      rw [this, ← Option.some.inj h]
      omega
    · rw [if_neg e] at h
      rw [if_pos (by simpa using e), msum_cons, msum_mdel f hn'.2 h]
      unfold mdel
      omega
theorem msum_mdel_elim (f : β → Nat) {l : List (κ × β)} {x : κ} (hn : Nd l) : msum f l = msum f (mdel l x) + (mget l x).elim 0 f := by
  cases h : mget l x with
  | none => rw [mdel_none h]; rfl
  | some v => exact msum_mdel f hn h
omit [DecidableEq κ] in
theorem msum_le {f : β → Nat} {c : Nat} : ∀ {l : List (κ × β)}, (∀ p ∈ l, f p.2 ≤ c) → msum f l ≤ l.length * c
  | [], _ => by simp [msum]
  | a :: r, h => by
    have h1 := h a List.mem_cons_self
    have h2 := msum_le (l := r) fun p hp => h p (List.mem_cons_of_mem _ hp)
    rw [msum_cons, List.length_cons, Nat.add_mul]
    omega
omit [DecidableEq κ] in
theorem msum_mem {f : β → Nat} : ∀ {l : List (κ × β)} {p : κ × β}, p ∈ l → f p.2 ≤ msum f l
  | a :: r, p, h => by
    rw [msum_cons]
    rcases List.mem_cons.1 h with rfl | h
    · omega
    · have := msum_mem (f := f) h; omega
end

/-- Of a world's blocks all but these stay. -/
structure Keep (F : Nat → Prop) (w w' : World) : Prop where
  os : w'.os = w.os
  tape : w'.tape = w.tape
  output : w'.output = w.output
  size : w.heap.size ≤ w'.heap.size
  block : ∀ i, i < w.heap.size → ¬ F i → w'.heap[i]? = w.heap[i]?
section
variable {F G : Nat → Prop} {w w' w'' : World}
theorem Keep.refl (F : Nat → Prop) (w : World) : Keep F w w := ⟨rfl, rfl, rfl, Nat.le_refl _, fun _ _ _ => rfl⟩
theorem Keep.trans (h : Keep F w w') (k : Keep F w' w'') : Keep F w w'' :=
  ⟨k.os.trans h.os, k.tape.trans h.tape, k.output.trans h.output, Nat.le_trans h.size k.size, fun i hi hF => (k.block i (Nat.lt_of_lt_of_le hi h.size) hF).trans (h.block i hi hF)⟩
/-- What turns later may also be what was made meanwhile. -/
theorem Keep.then (h : Keep F w w') (k : Keep G w' w'') (hG : ∀ i, i < w.heap.size → G i → F i) : Keep F w w'' :=
  ⟨k.os.trans h.os, k.tape.trans h.tape, k.output.trans h.output, Nat.le_trans h.size k.size, fun i hi hF => (k.block i (Nat.lt_of_lt_of_le hi h.size) (fun hg => hF (hG i hi hg))).trans (h.block i hi hF)⟩
theorem Keep.of_below (h : Below w.heap.size w w') : Keep F w w' := ⟨h.os, h.tape, h.output, h.size, fun i hi _ => h.block i hi⟩
theorem Keep.of_grown {row : Option Nat} (h : w.grownBy w' row) (hF : ∀ i, some i = row → F i) : Keep F w w' :=
  ⟨h.os, h.tape, h.output, h.size, fun i hi hn => h.block i hi fun e => hn (hF i e)⟩
theorem Keep.drewN (h : Keep F w w') (n : Nat) : Keep F w (w'.drewN n) := ⟨h.os, h.tape, h.output, h.size, h.block⟩
theorem Keep.alloc (h : Keep F w w') (o : Obj) : Keep F w (w'.alloc o) := h.trans (Keep.of_below ((Below.refl _ _).alloc (Nat.le_refl _) _))
theorem Keep.setCell (h : Keep F w w') {p : Addr} (hp : F p.block ∨ w.heap.size ≤ p.block) (u : Value) : Keep F w (w'.setCell p u) := by
  have hb : Below p.block w' (w'.setCell p u) := (Below.refl _ _).setCell (Nat.le_refl _) u
  refine ⟨hb.os.trans h.os, hb.tape.trans h.tape, hb.output.trans h.output, Nat.le_trans h.size hb.size, fun i hi hF => (Below.heap_setCell w' p u i fun e => ?_).trans (h.block i hi hF)⟩
  subst e
  rcases hp with hp | hp
  · exact hF hp
  · omega
theorem Keep.mono (h : Keep F w w') (hF : ∀ i, i < w.heap.size → F i → G i) : Keep G w w' := ⟨h.os, h.tape, h.output, h.size, fun i hi hn => h.block i hi fun hf => hn (hF i hi hf)⟩
theorem Keep.below (h : Keep F w w') {B : Nat} (hB : B ≤ w.heap.size) (hF : ∀ i, F i → B ≤ i) : Below B w w' :=
  ⟨h.os, h.tape, h.output, h.size, fun i hi => h.block i (by omega) fun hf => by have := hF i hf; omega⟩
theorem Keep.blk (h : Keep F w w') {g : Nat} {t : TypeId} {cs : Array Value} (hb : Blk w g t cs) (hg : ¬ F g) : Blk w' g t cs := (h.block g hb.lt hg).trans hb
theorem Keep.map {P : Program} {k : TypeId} {κ β : Type} {K : KeyT P k κ} {ev : β → Value} {b : Nat} {l : List (κ × β)} (h : Keep F w w') (hm : MapAt K ev w b l) (hb : ¬ F b) : MapAt K ev w' b l := by
  obtain ⟨⟨es, clock, h1, F', hs, hD⟩, hok⟩ := hm
  have hlt : b < w.heap.size := (Array.getElem?_eq_some_iff.1 h1).1
  exact ⟨⟨es, clock, (h.block b hlt hb).trans h1, F', hs, hD⟩, hok⟩
theorem cell_lt {p : Addr} {u : Value} (hu : w.cell? p = some u) : p.block < w.heap.size ∧ ∃ cs t f, w.heap[p.block]? = some (Obj.cells cs t f) := by
  unfold World.cell? at hu
  cases hb : w.heap[p.block]? with
  | none => rw [hb] at hu; simp at hu
  | some o =>
    cases o with
    | cells cs t f => exact ⟨(Array.getElem?_eq_some_iff.1 hb).1, cs, t, f, rfl⟩
    | _ => rw [hb] at hu; simp at hu
theorem Keep.cell (h : Keep F w w') {p : Addr} {u : Value} (hu : w.cell? p = some u) (hF : ¬ F p.block) : w'.cell? p = some u := by
  have h1 := h.block p.block (cell_lt hu).1 hF
  unfold World.cell? at hu ⊢
  rw [h1]; exact hu
theorem Keep.own (h : Keep F w w') {base : Nat} {e : TypeId} {size n : Nat} {v : Value} {xs : List Value} (ho : w.ownsRow base e size v n xs) (hF : ∀ g, base ≤ g → ¬ F g) : w'.ownsRow base e size v n xs := by
  refine ⟨ho.1, ?_⟩
  rcases ho.2 with h0 | ⟨g, cap, cur, hv, hb, hg, rest⟩
  · exact .inl h0
  · exact .inr ⟨g, cap, cur, hv, hb, (h.block g (Array.getElem?_eq_some_iff.1 hg).1 (hF g hb)).trans hg, rest⟩
end
end St
end Go.Proofs.YtlljpjehalodfaaGreat
