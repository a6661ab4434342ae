/- Slices of structs: how a value lies in cells; a slice that reads as a list of values; an append of one value onto a row of the call's own. -/
import Derived.Test.YtnkflgleiofinaaMem
namespace Go.Proofs.Ytnkflgleiofinaa
open Go.RowKit

/-- How a value of T lies in memory: 'cells w B x cs': the cells cs hold x, and all that they lead to lies below block B. -/
structure Rep (T : Type) where
  size : Nat
  pos : 0 < size
  cells : World → Nat → T → List Value → Prop
  len : ∀ {w : World} {B : Nat} {x : T} {cs : List Value}, cells w B x cs → cs.length = size
  one : ∀ {w : World} {B : Nat} {x : T} {cs : List Value}, cells w B x cs → ∀ u ∈ cs, u.oneCell' = true
  keep : ∀ {w w' : World} {B : Nat} {x : T} {cs : List Value}, cells w B x cs → Below B w w' → cells w' B x cs
  more : ∀ {w : World} {B B' : Nat} {x : T} {cs : List Value}, cells w B x cs → B ≤ B' → cells w B' x cs

/-- Rows of one length, one behind the other. -/
theorem flat_len {α : Type} {s : Nat} : ∀ (css : List (List α)), (∀ c ∈ css, c.length = s) → css.flatten.length = css.length * s
  | [], _ => by simp
  | c :: r, h => by
    have h1 := h c List.mem_cons_self
    have h2 := flat_len r (fun d hd => h d (List.mem_cons_of_mem _ hd))
    simp only [List.flatten_cons, List.length_append, List.length_cons, h1, h2, Nat.succ_mul]
    omega
theorem flat_get {α : Type} {s : Nat} : ∀ (css : List (List α)), (∀ c ∈ css, c.length = s) → ∀ i (hi : i < css.length) j, j < s → css.flatten[i * s + j]? = css[i][j]?
  | [], _, i, hi, _, _ => absurd hi (by simp)
  | c :: r, h, 0, _, j, hj => by
    have h1 := h c List.mem_cons_self
    simp only [List.flatten_cons, Nat.zero_mul, Nat.zero_add, List.getElem_cons_zero]
    rw [List.getElem?_append_left (by omega)]
  | c :: r, h, i + 1, hi, j, hj => by
    have h1 := h c List.mem_cons_self
    have h2 := flat_get r (fun d hd => h d (List.mem_cons_of_mem _ hd)) i (by simpa using hi) j hj
    simp only [List.flatten_cons, List.getElem_cons_succ]
    rw [List.getElem?_append_right (by rw [h1, Nat.succ_mul]; omega), ← h2]
    congr 1
    rw [h1, Nat.succ_mul]; omega

section
variable {T : Type} (R : Rep T)
/-- The cells of a list of values. -/
def Rep.all (w : World) (B : Nat) (l : List T) (css : List (List Value)) : Prop := css.length = l.length ∧ ∀ i (h1 : i < l.length) (h2 : i < css.length), R.cells w B l[i] css[i]
/-- A slice value (address A, as many elements as l has) reads as l. -/
def Sl (w : World) (B : Nat) (A : Option Addr) (l : List T) : Prop := ∃ css, R.all w B l css ∧ Reads w B R.size A l.length css.flatten
/-- A slice value v that the call itself owns holds l; what its cells lead to lies below B. -/
def Own (w : World) (B base : Nat) (e : TypeId) (v : Value) (l : List T) : Prop := ∃ css, R.all w B l css ∧ w.ownsRow base e R.size v l.length css.flatten
end

section
variable {T : Type} {R : Rep T} {w w' : World} {B B' : Nat} {A : Option Addr} {l : List T} {css : List (List Value)}
theorem Rep.all.size (h : R.all w B l css) : ∀ c ∈ css, c.length = R.size := by
  intro c hc
  obtain ⟨i, hi, rfl⟩ := List.getElem_of_mem hc
  exact R.len (h.2 i (by rw [← h.1]; exact hi) hi)
theorem Rep.all.one (h : R.all w B l css) : ∀ u ∈ css.flatten, u.oneCell' = true := by
  intro u hu
  obtain ⟨c, hc, hu⟩ := List.mem_flatten.1 hu
  obtain ⟨i, hi, rfl⟩ := List.getElem_of_mem hc
  exact R.one (h.2 i (by rw [← h.1]; exact hi) hi) u hu
theorem Rep.all.keep (h : R.all w B l css) (hb : Below B w w') : R.all w' B l css := ⟨h.1, fun i h1 h2 => R.keep (h.2 i h1 h2) hb⟩
theorem Rep.all.more (h : R.all w B l css) (hb : B ≤ B') : R.all w B' l css := ⟨h.1, fun i h1 h2 => R.more (h.2 i h1 h2) hb⟩
theorem Rep.all.nil_ : R.all w B [] [] := ⟨rfl, fun i h => absurd h (by simp)⟩
theorem Rep.all.snoc (h : R.all w B l css) {x : T} {cs : List Value} (hx : R.cells w B x cs) : R.all w B (l ++ [x]) (css ++ [cs]) := by
  have hl := h.1
  refine ⟨by simp [h.1], fun i h1 h2 => ?_⟩
  rcases Nat.lt_or_ge i l.length with hi | hi
  · rw [List.getElem_append_left hi, List.getElem_append_left (by omega)]; exact h.2 i hi (by omega)
  · have : i = l.length := by simp at h1; omega
    subst this
    rw [List.getElem_append_right (Nat.le_refl _), List.getElem_append_right (by omega)]
    simpa [hl] using hx
theorem Rep.all.app (h : R.all w B l css) {m : List T} {dss : List (List Value)} (hm : R.all w B m dss) : R.all w B (l ++ m) (css ++ dss) := by
  have hl := h.1
  have hml := hm.1
  refine ⟨by simp [h.1, hm.1], fun i h1 h2 => ?_⟩
  rcases Nat.lt_or_ge i l.length with hi | hi
  · rw [List.getElem_append_left hi, List.getElem_append_left (by omega)]; exact h.2 i hi (by omega)
  · rw [List.getElem_append_right hi, List.getElem_append_right (by omega)]
    have e : i - css.length = i - l.length := by omega
    simp only [e]
    simp only [List.length_append] at h1
    exact hm.2 _ (by omega) (by omega)
theorem Rep.all.take (h : R.all w B l css) (k : Nat) : R.all w B (l.take k) (css.take k) :=
  ⟨by simp [h.1], fun i h1 h2 => by simp only [List.getElem_take]; exact h.2 i _ _⟩
theorem Rep.all.drop (h : R.all w B l css) (k : Nat) : R.all w B (l.drop k) (css.drop k) :=
  ⟨by simp [h.1], fun i h1 h2 => by simp only [List.getElem_drop]; exact h.2 _ _ _⟩
theorem flat_take {α : Type} {s : Nat} : ∀ (css : List (List α)) (_ : ∀ c ∈ css, c.length = s) (k : Nat), css.flatten.take (k * s) = (css.take k).flatten
  | [], _, k => by simp
  | c :: r, h, 0 => by simp
  | c :: r, h, k + 1 => by
    have h1 := h c List.mem_cons_self
    have h2 := flat_take r (fun d hd => h d (List.mem_cons_of_mem _ hd)) k
    simp only [List.flatten_cons, List.take_succ_cons]
    rw [List.take_append, h1, Nat.succ_mul, List.take_of_length_le (by omega), Nat.add_sub_cancel, h2]
theorem flat_drop {α : Type} {s : Nat} : ∀ (css : List (List α)) (_ : ∀ c ∈ css, c.length = s) (k : Nat), css.flatten.drop (k * s) = (css.drop k).flatten
  | [], _, k => by simp
  | c :: r, h, 0 => by simp
  | c :: r, h, k + 1 => by
    have h1 := h c List.mem_cons_self
    have h2 := flat_drop r (fun d hd => h d (List.mem_cons_of_mem _ hd)) k
    simp only [List.flatten_cons, List.drop_succ_cons]
    rw [List.drop_append, h1, Nat.succ_mul, List.drop_of_length_le (by omega), Nat.add_sub_cancel, h2, List.nil_append]

theorem Sl.nil_ : Sl R w B A [] := ⟨[], .nil_, by simpa using (Reads.none_ : Reads w B R.size A 0 [])⟩
theorem Sl.below (h : Sl R w B A l) (hb : Below B w w') : Sl R w' B A l := by
  obtain ⟨css, h1, h2⟩ := h
  exact ⟨css, h1.keep hb, h2.below hb⟩
theorem Sl.more (h : Sl R w B A l) (hb : B ≤ B') : Sl R w B' A l := by
  obtain ⟨css, h1, h2⟩ := h
  exact ⟨css, h1.more hb, h2.more hb⟩
theorem Sl.to (h : Sl R w B A l) (hb : Below B w w') (hB : B ≤ B') : Sl R w' B' A l := (h.below hb).more hB
theorem Sl.drewN (h : Sl R w B A l) (k : Nat) : Sl R (w.drewN k) B A l := h.below (below_drewN_ (Below.refl _ _) k)
theorem Sl.take (h : Sl R w B A l) {k : Nat} (hk : k ≤ l.length) : Sl R w B A (l.take k) := by
  obtain ⟨css, h1, h2⟩ := h
  refine ⟨css.take k, h1.take k, ?_⟩
  rw [← flat_take css h1.size k, List.length_take, Nat.min_eq_left hk]
  exact h2.take hk
theorem Sl.cut (h : Sl R w B A l) {k c : Nat} (hk : k ≤ l.length) (hc : l.length ≤ c) : Sl R w B (if c = k then A else A.map (·.add (k * R.size))) (l.drop k) := by
  obtain ⟨css, h1, h2⟩ := h
  refine ⟨css.drop k, h1.drop k, ?_⟩
  rw [← flat_drop css h1.size k, List.length_drop]
  exact h2.cut hk hc
/-- The cells of one element. -/
theorem Sl.at_ (h : Sl R w B A l) {i : Nat} (hi : i < l.length) : ∃ b off cs, A = some ⟨b, off, none⟩ ∧ b < B ∧ R.cells w B l[i] cs ∧ ∀ j u, cs[j]? = some u → w.cell? ⟨b, off + (i * R.size + j), none⟩ = some u := by
  obtain ⟨css, h1, h2⟩ := h
  have hl := h1.1
  obtain ⟨b, off, e, hb, hc⟩ := h2.2 (by omega)
  have hx := h1.2 i hi (by omega)
  refine ⟨b, off, css[i]'(by omega), e, hb, hx, fun j u hu => hc _ u ?_⟩
  have hj : j < R.size := by
    rcases Nat.lt_or_ge j R.size with h | h
    · exact h
    · rw [List.getElem?_eq_none (by rw [R.len hx]; exact h)] at hu; cases hu
  rw [flat_get css h1.size i (by omega) j hj]; exact hu
theorem Sl.head (h : Sl R w B A l) (hp : 0 < l.length) : ∃ b off, A = some ⟨b, off, none⟩ ∧ b < B := by
  obtain ⟨b, off, _, e, hb, _⟩ := h.at_ hp
  exact ⟨b, off, e, hb⟩

variable {base : Nat} {e : TypeId} {v : Value}
theorem Own.nil_ (w : World) (B base : Nat) (e : TypeId) : Own R w B base e (.slice none 0 0) [] := ⟨[], .nil_, by simpa using World.ownsRow_nil w base e R.size⟩
theorem Own.made (w : World) {B base : Nat} (hb : base ≤ w.heap.size) (e : TypeId) : Own R (w.alloc (.cells #[] e)) B base e (.slice (some ⟨w.heap.size, 0, none⟩) 0 0) [] :=
  ⟨[], .nil_, by simpa using World.ownsRow_made (e := e) (size := R.size) w #[] 0 hb (Nat.zero_le _) (by simp)⟩
theorem Own.opened (h : Own R w B base e v l) (hB : B ≤ w.heap.size) : ∃ A c, v = .slice A l.length c ∧ l.length ≤ c ∧ c ≤ maxLen ∧ Sl R w w.heap.size A l := by
  obtain ⟨css, h1, h2⟩ := h
  obtain ⟨A, c, hv, hc, hm, hr⟩ := own_slice h2
  exact ⟨A, c, hv, hc, hm, css, h1.more hB, hr⟩
/-- Kept where what is below the heap's end stays. -/
theorem Own.below (h : Own R w B base e v l) (hb : Below w.heap.size w w') (hB : B ≤ w.heap.size) : Own R w' B base e v l := by
  obtain ⟨css, h1, h2⟩ := h
  exact ⟨css, h1.keep (hb.mono hB), own_below h2 hb⟩
theorem Own.more (h : Own R w B base e v l) (hB : B ≤ B') : Own R w B' base e v l := by
  obtain ⟨css, h1, h2⟩ := h
  exact ⟨css, h1.more hB, h2⟩
theorem Own.baseLow {base' : Nat} (h : Own R w B base e v l) (hb : base' ≤ base) : Own R w B base' e v l := by
  obtain ⟨css, h1, h2⟩ := h
  exact ⟨css, h1, own_base h2 hb⟩
end

section
variable {P : Program} {T : Type} {R : Rep T} (w : World)
/-- 'out = append(out, x)': x's cells stand in the newest block. -/
theorem wpList_pushR {ops : Array Oper} {rest : List Oper} {o : Oper} {a : Act} {Q : Exit → Act → World → Prop} (hgd : o.guard = none) (s x : Operand) (t : TypeId)
    (ho : o.op = .call { callee := .builtin .append, args := #[s, x], argTypes := #[t, t] })
    (B base : Nat) (e : TypeId) (z : Value) (bytes : Nat) (ht : P.underlying t = some (.slice e)) (hi : (P.info? e).map (fun i => (i.zero, i.size, i.bytes)) = some (some z, R.size, bytes)) (hzs : z.cells.size = R.size)
    (v : Value) (l : List T) (y : T) (cs : Array Value) (te : TypeId) (hs : a.eval s = v) (hx : a.eval x = .slice (some ⟨w.heap.size, 0, none⟩) 1 1) (hown : Own R w B base e v l) (hy : R.cells w B y cs.toList)
    (h63 : l.length + 1 ≤ maxLen) (hbytes : (l.length + 1) * bytes ≤ 140737488355328) (hBb : B ≤ base) (hbase : base ≤ w.heap.size)
    (h : ∀ v' w', Own R w' B base e v' (l ++ [y]) → Below base w w' → (w.alloc (.cells cs te)).grownBy w' v.ownBlock → (v'.ownBlock = v.ownBlock ∨ v'.ownBlock = some (w.heap.size + 1)) → wpList P ops Q rest (a.put o.dst v') w') :
    wpList P ops Q (o :: rest) a (w.alloc (.cells cs te)) := by
  obtain ⟨css, h1, h2⟩ := hown
  have hlen := R.len hy
  have hr : Reads (w.alloc (.cells cs te)) (w.heap.size + 1) R.size (some ⟨w.heap.size, 0, none⟩) 1 cs.toList := Reads.made w cs te (by rw [hlen, Nat.one_mul])
  refine wpList_append_any (w.alloc (.cells cs te)) hgd s x t ho base e z R.size bytes ht hi hzs R.pos v l.length css.flatten hs (h2.alloc _) (w.heap.size + 1) _ 1 1 cs.toList hx hr (R.one hy) h63 hbytes (by simp; omega) ?_
  intro v' w' k1 k2 k3 k4
  have hb : Below base w w' := ((Below.refl base w).alloc hbase _).trans k2
  refine h v' w' ⟨css ++ [cs.toList], (h1.snoc hy).keep (hb.mono hBb), ?_⟩ hb k3 (by simpa using k4)
  simpa using k1
end
end Go.Proofs.Ytnkflgleiofinaa
