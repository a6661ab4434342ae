/- Maps as sorted lists of keys and things: one word for what a map's block holds, and what a look-up, a store, a delete, a length and a range do with it. -/
import Derived.Test.YtennddlihcamnaaMem
import Derived.Maps.RangeWalk
namespace Go.Proofs.Ytennddlihcamnaa
set_option linter.unusedVariables false
set_option linter.unusedSimpArgs false
open Go.RowKit

/-- How a type of keys lies in memory, and its order. -/
structure KeyT (P : Program) (k : TypeId) (κ : Type) where
  ok : κ → Prop
  val : κ → Value
  lit : κ → Lit
  lt : κ → κ → Bool
  keyed : Go.Maps.Keyed P k
  key : ∀ {x}, ok x → keyOf P k (val x) = some (lit x)
  inv : ∀ {v l}, keyOf P k v = some l → ∃ x, ok x ∧ v = val x ∧ l = lit x
  inj : ∀ {x y}, lit x = lit y → x = y
  isKey : ∀ x, WideAt.IsKeyLit (lit x)
  before : ∀ x y, (lit x).before (lit y) = lt x y

def ltS (a b : ByteArray) : Bool := bytesBefore a.data.toList b.data.toList
def strT {P : Program} {k : TypeId} (hk : P.underlying k = some .string) : KeyT P k ByteArray where
  ok s := s.size ≤ maxLen
  val := .string
  lit s := .string s.data.toList
  lt := ltS
  keyed := Go.Maps.string_keyed hk
  key h := _root_.Go.WideMaps.keyOf_string_mk hk h
  inv {v l} h := by
    cases v <;> simp [keyOf, hk, mapKey] at h
    obtain ⟨h1, rfl⟩ := h
    exact ⟨_, h1, rfl, rfl⟩
  inj {x y} h := by
    injection h with h
    cases x; cases y
    congr 1
    exact Array.ext' h
  isKey x := trivial
  before x y := rfl
def intT {P : Program} {k : TypeId} (hk : P.underlying k = some (.int .i64)) : KeyT P k Int where
  ok a := (Lit.int .i64 a).wf = true
  val := .int .i64
  lit := .int .i64
  lt a b := decide (a < b)
  keyed := Go.Maps.int_keyed hk
  key h := Go.Maps.keyOf_int_mk hk h
  inv {v l} h := by
    obtain ⟨x, rfl, rfl, hw⟩ := Go.Maps.keyOf_int_inv hk h
    exact ⟨x, hw, rfl, rfl⟩
  inj {x y} h := by injection h
  isKey x := trivial
  before x y := rfl

/-! ### sorted lists -/
section
variable {κ β : Type}
def mins (lt : κ → κ → Bool) (p : κ × β) : List (κ × β) → List (κ × β)
  | [] => [p]
  | q :: r => if lt p.1 q.1 = true then p :: q :: r else q :: mins lt p r
theorem mins_mem {lt : κ → κ → Bool} {p q : κ × β} : ∀ {l : List (κ × β)}, q ∈ mins lt p l ↔ q = p ∨ q ∈ l
  | [] => by simp [mins]
  | a :: r => by
    rw [mins]
    split
    · simp
    · rw [List.mem_cons, mins_mem, List.mem_cons]
      constructor
      · rintro (h | h | h)
        · exact .inr (.inl h)
        · exact .inl h
        · exact .inr (.inr h)
      · rintro (h | h | h)
        · exact .inr (.inl h)
        · exact .inl h
        · exact .inr (.inr h)
theorem mins_perm {lt : κ → κ → Bool} {p : κ × β} : ∀ (l : List (κ × β)), (mins lt p l).Perm (p :: l)
  | [] => List.Perm.refl _
  | a :: r => by
    rw [mins]
    split
    · exact List.Perm.refl _
    · exact ((mins_perm r).cons a).trans (List.Perm.swap _ _ _)
variable [DecidableEq κ]
def mget (l : List (κ × β)) (x : κ) : Option β := (l.find? fun p => decide (p.1 = x)).map (·.2)
def mdel (l : List (κ × β)) (x : κ) : List (κ × β) := l.filter fun p => decide (p.1 ≠ x)
def mput (lt : κ → κ → Bool) (l : List (κ × β)) (x : κ) (v : β) : List (κ × β) := mins lt (x, v) (mdel l x)
theorem mget_nil (x : κ) : mget ([] : List (κ × β)) x = none := rfl
theorem mget_cons (p : κ × β) (l : List (κ × β)) (x : κ) : mget (p :: l) x = if p.1 = x then some p.2 else mget l x := by
  unfold mget
  by_cases h : p.1 = x <;> simp [h]
theorem mget_none {l : List (κ × β)} {x : κ} : mget l x = none ↔ ∀ p ∈ l, p.1 ≠ x := by
  unfold mget
  rw [Option.map_eq_none_iff, List.find?_eq_none]
  exact ⟨fun h p hp => by simpa using h p hp, fun h p hp => by simpa using h p hp⟩
theorem mget_mem {l : List (κ × β)} {x : κ} {v : β} (h : mget l x = some v) : (x, v) ∈ l := by
  unfold mget at h
  obtain ⟨p, hp, rfl⟩ := Option.map_eq_some_iff.1 h
  have h1 := List.find?_some hp
  have h2 := List.mem_of_find?_eq_some hp
  have : p.1 = x := by simpa using h1
  rw [← this]
  exact h2
theorem mget_mins (lt : κ → κ → Bool) (p : κ × β) (x : κ) : ∀ l : List (κ × β), (∀ q ∈ l, q.1 ≠ p.1) → mget (mins lt p l) x = if p.1 = x then some p.2 else mget l x
  | [], _ => by rw [mins, mget_cons]
  | q :: r, h => by
    rw [mins]
    split
    · rw [mget_cons]
    · rw [mget_cons, mget_mins lt p x r (fun y hy => h y (List.mem_cons_of_mem _ hy)), mget_cons]
      by_cases e : p.1 = x
      · rw [if_pos e, if_pos e, if_neg (fun e' => h q List.mem_cons_self (e'.trans e.symm))]
      · rw [if_neg e, if_neg e]
theorem mget_mdel (l : List (κ × β)) (x y : κ) : mget (mdel l x) y = if y = x then none else mget l y := by
  induction l with
  | nil => simp [mdel, mget]
  | cons p r ih =>
    unfold mdel at ih ⊢
    rw [List.filter_cons]
    by_cases h : p.1 = x
    · rw [if_neg (by simpa using h), ih, mget_cons]
      by_cases hy : y = x
      · rw [if_pos hy, if_pos hy]
      · rw [if_neg hy, if_neg hy, if_neg (fun e => hy (e.symm.trans h))]
    · rw [if_pos (by simpa using h), mget_cons, ih, mget_cons]
      by_cases hy : y = x
      · rw [if_pos hy, if_pos hy, if_neg (fun e => h (e.trans hy))]
      · rw [if_neg hy, if_neg hy]
theorem mdel_ne {l : List (κ × β)} {x : κ} : ∀ q ∈ mdel l x, q.1 ≠ x := fun q hq => by simpa using (List.mem_filter.1 hq).2
theorem mget_mput (lt : κ → κ → Bool) (l : List (κ × β)) (x y : κ) (v : β) : mget (mput lt l x v) y = if x = y then some v else mget l y := by
  unfold mput
  rw [mget_mins lt (x, v) y _ mdel_ne, mget_mdel]
  by_cases e : x = y
  · rw [if_pos e, if_pos e]
  · rw [if_neg e, if_neg e, if_neg (fun e' => e e'.symm)]
theorem mput_mem {lt : κ → κ → Bool} {l : List (κ × β)} {x : κ} {v : β} {q : κ × β} : q ∈ mput lt l x v ↔ q = (x, v) ∨ (q ∈ l ∧ q.1 ≠ x) := by
  unfold mput mdel
  rw [mins_mem, List.mem_filter]
  simp
end

/-! ### what a map's block holds -/
/-- An element, read as the value that it is. -/
def rawR (v : Value) : Option (DataW Value × List MemPlace) := some (.held v, [])

section
variable {P : Program} {k : TypeId} {κ β : Type}
def encE (K : KeyT P k κ) (ev : β → Value) (p : κ × β) : Lit × DataW Value := (K.lit p.1, .held (ev p.2))

/-- Block b is a map of just these keys and things, sorted. -/
structure MapAt (K : KeyT P k κ) (ev : β → Value) (w : World) (b : Nat) (l : List (κ × β)) : Prop where
  own : w.ownsMap P k rawR b l.length (.map (l.map (encE K ev)))
  ok : ∀ p ∈ l, K.ok p.1

variable {K : KeyT P k κ} {ev : β → Value} {w w' : World} {b : Nat} {l : List (κ × β)}

theorem enc_insert (p : κ × β) : ∀ l : List (κ × β), DataW.insert (encE K ev p) (l.map (encE K ev)) = (mins K.lt p l).map (encE K ev)
  | [] => rfl
  | q :: r => by
    rw [mins, List.map_cons, DataW.insert]
    show (if (K.lit p.1).before (K.lit q.1) = true then _ else _) = _
    rw [K.before]
    split
    · rfl
    · rw [enc_insert p r]; rfl
theorem own_tight {n : Nat} {L : List (Lit × DataW Value)} (h : w.ownsMap P k rawR b n (.map L)) : w.ownsMap P k rawR b L.length (.map L) := by
  obtain ⟨es, clock, hb, F, hs, hD⟩ := h
  refine ⟨es, clock, hb, F, ?_, hD⟩
  injection hD with hD
  rw [hD, length_sorted]
  simp
theorem MapAt.of {n : Nat} (h : w.ownsMap P k rawR b n (.map (l.map (encE K ev)))) (hok : ∀ p ∈ l, K.ok p.1) : MapAt K ev w b l :=
  ⟨by have := own_tight h; rwa [List.length_map] at this, hok⟩
theorem MapAt.new (K : KeyT P k κ) (ev : β → Value) (w : World) : MapAt K ev (w.alloc (.map #[] 0)) w.heap.size [] := ⟨World.ownsMap_made w P k rawR, fun p hp => by cases hp⟩
theorem MapAt.lt_ (h : MapAt K ev w b l) : b < w.heap.size := h.own.lt
theorem MapAt.kept {row : Option Nat} (h : MapAt K ev w b l) (hg : w.grownBy w' row) (hne : some b ≠ row) : MapAt K ev w' b l := ⟨h.own.kept hg hne, h.ok⟩
theorem MapAt.below {B : Nat} (h : MapAt K ev w b l) (hb : Below B w w') (hB : b < B) : MapAt K ev w' b l := by
  obtain ⟨⟨es, clock, h1, F, hs, hD⟩, hok⟩ := h
  exact ⟨⟨es, clock, (hb.block b hB).trans h1, F, hs, hD⟩, hok⟩
theorem MapAt.setCell (h : MapAt K ev w b l) {a : Addr} (ha : b ≠ a.block) (u : Value) : MapAt K ev (w.setCell a u) b l := ⟨h.own.setCell ha u, h.ok⟩
theorem MapAt.alloc (h : MapAt K ev w b l) (o : Obj) : MapAt K ev (w.alloc o) b l := ⟨h.own.alloc o, h.ok⟩
theorem MapAt.drewN (h : MapAt K ev w b l) (n : Nat) : MapAt K ev (w.drewN n) b l := ⟨h.own, h.ok⟩
theorem MapAt.drew (h : MapAt K ev w b l) : MapAt K ev w.drew b l := ⟨h.own, h.ok⟩
theorem MapAt.srt (h : MapAt K ev w b l) : l.Pairwise fun p q => K.lt p.1 q.1 = true := by
  obtain ⟨es, clock, hb, F, hs, hD⟩ := h.own
  injection hD with hD
  have h1 := WideShapes.rising_pairwise _ (Go.Maps.fit_rising K.keyed F)
  rw [← hD, List.pairwise_map] at h1
  exact h1.imp fun {p q} hpq => by rw [← K.before]; exact hpq
theorem ltK_ne {x y : κ} (h : K.lt x y = true) : x ≠ y := fun e => by
  rw [← K.before, e, WideShapes.before_irrefl] at h; cases h
theorem ltK_trans {x y z : κ} (h : K.lt x y = true) (h' : K.lt y z = true) : K.lt x z = true := by
  rw [← K.before] at h h' ⊢; exact WideShapes.before_trans h h'
theorem ltK_tot {x y : κ} (hx : K.ok x) (hy : K.ok y) (h : x ≠ y) : K.lt x y = true ∨ K.lt y x = true := by
  rw [← K.before, ← K.before]; exact K.keyed.total (K.key hx) (K.key hy) fun e => h (K.inj e)
theorem MapAt.nodup (h : MapAt K ev w b l) : l.Pairwise fun p q => p.1 ≠ q.1 := h.srt.imp fun h => ltK_ne h

/-! ### the operations, as they run -/
variable {t e : TypeId} {z : Value} {x : κ}
theorem MapAt.len_run (h : MapAt K ev w b l) (ht : P.underlying t = some (.map k e)) (ty : TypeId) : (Builtin.len_ #[t] ty #[.map (some b)]).run P w = .ok (.int .i64 (l.length : Int)) w := by
  rw [h.own.len ht ty, Go.Maps.size_eq, List.length_map]
/-- Block r is a range over the map in block b, of which these are still to come. -/
def RangeAt (K : KeyT P k κ) (ev : β → Value) (w : World) (b r : Nat) (l todo : List (κ × β)) : Prop :=
  ∃ left, w.ranges P k rawR b r l.length (.map (l.map (encE K ev))) left todo.length ∧ todo = l.filter (fun p => left (K.lit p.1)) ∧ ∀ p ∈ l, K.ok p.1

theorem ranges_cnt {r n cnt : Nat} {L : List (Lit × DataW Value)} {left : Lit → Bool} (h : w.ranges P k rawR b r n (.map L) left cnt) : cnt = (L.filter fun p => left p.1).length := by
  obtain ⟨es, clock, since, seen, c0, hb, F, hs, hD, hr, hold, hc, hl1, _⟩ := h
  injection hD with hD
  rw [hD, ((WideShapes.sorted_perm _).filter _).length_eq, ← hc, List.filter_map, List.length_map]
  unfold leftOf
  rw [← Array.length_toList, Array.toList_filter]
  congr 1
  refine List.filter_congr fun x hx => ?_
  rw [Function.comp_apply, hl1 x hx]
theorem RangeAt.map {r : Nat} {todo : List (κ × β)} (h : RangeAt K ev w b r l todo) : MapAt K ev w b l := by
  obtain ⟨left, hr, _, hok⟩ := h
  exact ⟨hr.owns, hok⟩
theorem RangeAt.lt {r : Nat} {todo : List (κ × β)} (h : RangeAt K ev w b r l todo) : r < w.heap.size := by
  obtain ⟨left, hr, _, hok⟩ := h
  exact hr.lt
theorem RangeAt.left_eq {r : Nat} {todo : List (κ × β)} (h : RangeAt K ev w b r l todo) : w.rangeLeft b r = todo.length := by
  obtain ⟨left, hr, _, hok⟩ := h
  exact hr.left_eq
theorem RangeAt.kept {r : Nat} {todo : List (κ × β)} {row : Option Nat} (h : RangeAt K ev w b r l todo) (hg : w.grownBy w' row) (h1 : some b ≠ row) (h2 : some r ≠ row) : RangeAt K ev w' b r l todo := by
  obtain ⟨left, hr, ht, hok⟩ := h
  exact ⟨left, hr.kept hg h1 h2, ht, hok⟩
theorem RangeAt.below {r B : Nat} {todo : List (κ × β)} (h : RangeAt K ev w b r l todo) (hb : Below B w w') (h1 : b < B) (h2 : r < B) : RangeAt K ev w' b r l todo := by
  obtain ⟨left, ⟨es, clock, since, seen, c0, hm, F, hs, hD, hr, rest⟩, ht, hok⟩ := h
  exact ⟨left, ⟨es, clock, since, seen, c0, (hb.block b h1).trans hm, F, hs, hD, (hb.block r h2).trans hr, rest⟩, ht, hok⟩
theorem RangeAt.drewN {r : Nat} {todo : List (κ × β)} (h : RangeAt K ev w b r l todo) (n : Nat) : RangeAt K ev (w.drewN n) b r l todo := by
  obtain ⟨left, ⟨es, clock, since, seen, c0, hm, F, hs, hD, hr, rest⟩, ht, hok⟩ := h
  exact ⟨left, ⟨es, clock, since, seen, c0, hm, F, hs, hD, hr, rest⟩, ht, hok⟩
theorem RangeAt.sub {r : Nat} {todo : List (κ × β)} (h : RangeAt K ev w b r l todo) : todo.Sublist l := by
  obtain ⟨left, _, rfl, _⟩ := h
  exact List.filter_sublist
theorem MapAt.clear_run (h : MapAt K ev w b l) (ht : P.underlying t = some (.map k e)) (ty : TypeId) :
    ∃ w', (Builtin.clear_ #[t] ty #[.map (some b)]).run P w = .ok (.tuple #[]) w' ∧ MapAt K ev w' b [] ∧ w.grownBy w' (some b) ∧ w'.heap.size = w.heap.size := by
  obtain ⟨es, clock, hb, F, hs, hD⟩ := h.own
  refine ⟨ChangeMaps.setBlock w b (.map #[] clock), ?_, ⟨⟨#[], clock, ChangeMaps.heap_setBlock_same hb _, ⟨by simp, MapKept.stamped_empty clock, by simp⟩, Nat.le_refl _, rfl⟩, fun p hp => by cases hp⟩, ⟨rfl, rfl, rfl, by simp [ChangeMaps.setBlock], fun i _ hi => ChangeMaps.heap_setBlock_other hb _ (fun e => hi (by rw [e]))⟩, by simp [ChangeMaps.setBlock]⟩
  simp [Builtin.clear_, run_underlying ht, MapKept.run_getObj_map hb, MapKept.run_setObj_map _ hb, Result.andThen, ChangeMaps.setBlock]
variable [DecidableEq κ]
theorem lit_sameKey (x y : κ) : (K.lit x).sameKey (K.lit y) = decide (x = y) := by
  by_cases h : x = y
  · rw [h, WideAt.sameKey_self (K.isKey y)]; simp
  · rw [Go.Maps.sameKey_ne (fun e => h (K.inj e))]; simp [h]
theorem enc_find (x : κ) : ∀ l : List (κ × β), (l.map (encE K ev)).find? (fun p => p.1.sameKey (K.lit x)) = (l.find? fun p => decide (p.1 = x)).map (encE K ev) := fun l => by
  rw [List.find?_map]
  congr 2
  funext p
  exact lit_sameKey p.1 x
theorem enc_atKey (x : κ) (z : Value) : (DataW.map (l.map (encE K ev))).atKey (K.lit x) (.held z) = .held ((mget l x).elim z ev) := by
  unfold DataW.atKey mget
  simp only [enc_find]
  cases l.find? fun p => decide (p.1 = x) <;> rfl
theorem enc_has (x : κ) : Go.Maps.has (DataW.map (l.map (encE K ev))) (K.lit x) = (mget l x).isSome := by
  unfold mget
  rw [Option.isSome_map, Go.Maps.has_eq, Bool.eq_iff_iff, List.any_map, List.any_eq_true, List.find?_isSome]
  refine exists_congr fun p => and_congr_right fun _ => ?_
  rw [Function.comp_apply, show (encE K ev p).1 = K.lit p.1 from rfl, lit_sameKey]
theorem enc_del (x : κ) : (DataW.map (l.map (encE K ev))).del (K.lit x) = .map ((mdel l x).map (encE K ev)) := by
  rw [DataW.del_eq]
  unfold ChangeMaps.delKey mdel
  rw [List.filter_map]
  congr 3
  funext p
  simp only [Function.comp_apply, ChangeMaps.notKey, encE]
  rw [lit_sameKey]
  simp
theorem enc_put (x : κ) (v : β) : (DataW.map (l.map (encE K ev))).put (K.lit x) (.held (ev v)) = .map ((mput K.lt l x v).map (encE K ev)) := by
  have h := enc_del (K := K) (ev := ev) (l := l) x
  rw [DataW.del_eq] at h
  injection h with h
  rw [DataW.put_eq]
  unfold ChangeMaps.putKey
  unfold ChangeMaps.delKey at h
  rw [h, show (K.lit x, DataW.held (ev v)) = encE K ev (x, v) from rfl, enc_insert]
  rfl

theorem MapAt.get_run (h : MapAt K ev w b l) (ht : P.underlying t = some (.map k e)) (hz : (zeroValue e).run P w = .ok z w) (hx : K.ok x) :
    (Instr.lookup t (.map (some b)) (K.val x) false).run P w = .ok ((mget l x).elim z ev) w := by
  obtain ⟨v, ps, hr, hv⟩ := h.own.lookup K.keyed ht hz (zd := .held z) (zp := []) rfl (K.key hx)
  rw [enc_atKey] at hv
  unfold rawR at hv
  injection hv with hv
  injection hv with hv _
  injection hv with hv
  rw [hr, hv]
theorem MapAt.ask_run (h : MapAt K ev w b l) (ht : P.underlying t = some (.map k e)) (hz : (zeroValue e).run P w = .ok z w) (hx : K.ok x) :
    (Instr.lookup t (.map (some b)) (K.val x) true).run P w = .ok (.tuple #[(mget l x).elim z ev, .bool (mget l x).isSome]) w := by
  obtain ⟨v, ps, hr, hv⟩ := h.own.look_ok K.keyed ht hz (zd := .held z) (zp := []) rfl (K.key hx)
  rw [enc_atKey] at hv
  rw [enc_has] at hr
  unfold rawR at hv
  injection hv with hv
  injection hv with hv _
  injection hv with hv
  rw [hr, hv]
theorem MapAt.get_at (h : MapAt K ev w b l) (ht : P.underlying t = some (.map k e)) (hz : (zeroValue e).run P w = .ok z w) (hx : K.ok x) {v : Value} (hv : (mget l x).elim z ev = v) :
    (Instr.lookup t (.map (some b)) (K.val x) false).run P w = .ok v w := by
  subst hv; exact h.get_run ht hz hx
theorem MapAt.ask_at (h : MapAt K ev w b l) (ht : P.underlying t = some (.map k e)) (hz : (zeroValue e).run P w = .ok z w) (hx : K.ok x) {v : Value} {q : Bool} (hv : (mget l x).elim z ev = v) (hq : (mget l x).isSome = q) :
    (Instr.lookup t (.map (some b)) (K.val x) true).run P w = .ok (.tuple #[v, .bool q]) w := by
  subst hv hq; exact h.ask_run ht hz hx
theorem MapAt.put_run (h : MapAt K ev w b l) (ht : P.underlying t = some (.map k e)) (hx : K.ok x) (hn : l.length < maxLen) (v : β) :
    ∃ w', (Instr.mapUpdate t (.map (some b)) (K.val x) (ev v)).run P w = .ok () w' ∧ MapAt K ev w' b (mput K.lt l x v) ∧ w.grownBy w' (some b) ∧ w'.heap.size = w.heap.size := by
  obtain ⟨w', hr, ho, hm⟩ := h.own.store K.keyed ht hn (val := ev v) (d := .held (ev v)) (ps := []) (K.key hx) rfl
  rw [enc_put] at ho
  refine ⟨w', hr, MapAt.of ho fun p hp => ?_, hm.grown, ?_⟩
  · rcases mput_mem.1 hp with rfl | ⟨hp, _⟩
    · exact hx
    · exact h.ok p hp
  · obtain ⟨es, clock, es', clock', hb, rfl⟩ := hm
    simp [ChangeMaps.setBlock]
theorem MapAt.del_run (h : MapAt K ev w b l) (ht : P.underlying t = some (.map k e)) (hx : K.ok x) (ty : TypeId) :
    ∃ w', (Builtin.delete_ #[t, k] ty #[.map (some b), K.val x]).run P w = .ok (.tuple #[]) w' ∧ MapAt K ev w' b (mdel l x) ∧ w.grownBy w' (some b) ∧ w'.heap.size = w.heap.size := by
  obtain ⟨w', hr, ho, hm⟩ := h.own.drop K.keyed ht (K.key hx) ty
  rw [enc_del] at ho
  refine ⟨w', hr, MapAt.of ho fun p hp => h.ok p (List.mem_filter.1 hp).1, hm.grown, ?_⟩
  obtain ⟨es, clock, es', clock', hb, rfl⟩ := hm
  simp [ChangeMaps.setBlock]


/-! ### a range -/
theorem MapAt.range_run (h : MapAt K ev w b l) (ht : P.underlying t = some (.map k e)) :
    ∃ w', (Instr.range t (.map (some b))).run P w = .ok (.pointer (some ⟨w.heap.size, 0, none⟩)) w' ∧ RangeAt K ev w' b w.heap.size l l ∧ w.grownBy w' none ∧ w'.heap.size = w.heap.size + 1 := by
  obtain ⟨w', hr, hg, h1, h2⟩ := h.own.range K.keyed ht
  rw [Go.Maps.size_eq, List.length_map] at hg
  refine ⟨w', hr, ⟨_, hg, ?_, h.ok⟩, h1, h2⟩
  refine (List.filter_eq_self.2 fun p hp => ?_).symm
  rw [enc_has, Option.isSome_iff_ne_none]
  intro hn
  exact mget_none.1 hn p hp rfl
/-- One step of a range: nothing is left, or a thing comes, whichever. -/
theorem RangeAt.next_run {r : Nat} {todo : List (κ × β)} (h : RangeAt K ev w b r l todo) (ty : TypeId) :
    (todo = [] ∧ (Instr.next (.pointer (some ⟨r, 0, none⟩)) false ty).run P w = .ok (.tuple #[.bool false]) w) ∨
    ∃ p w', p ∈ todo ∧ (Instr.next (.pointer (some ⟨r, 0, none⟩)) false ty).run P w = .ok (.tuple #[.bool true, K.val p.1, ev p.2]) w' ∧
      RangeAt K ev w' b r l (mdel todo p.1) ∧ (mdel todo p.1).length < todo.length ∧ w.grownBy w' (some r) ∧ w'.heap.size = w.heap.size ∧ (Instr.entry (.pointer (some ⟨r, 0, none⟩))).run P w' = .ok (.tuple #[K.val p.1, ev p.2]) w' := by
  have hnd := h.map.nodup
  obtain ⟨left, hr, rfl, hok⟩ := h
  rcases hr.next K.keyed ty with ⟨h0, hl, hrun⟩ | ⟨key, v, kl, y, w', cnt', hkey, hlk, hv, hat, hrun, hrg, hlt, hgr, hsz, hen⟩
  · exact .inl ⟨List.eq_nil_of_length_eq_zero h0, hrun⟩
  · obtain ⟨x, hx, rfl, rfl⟩ := K.inv hkey
    have hm : Go.Maps.has (DataW.map (l.map (encE K ev))) (K.lit x) = true := by
      obtain ⟨es, clock, since, seen, c0, hb, F, hs, hD, hr', hold, hc, hl1, hl2, _⟩ := hr
      obtain ⟨m, hm, he⟩ := hl2 _ hlk
      rw [hD]
      exact List.any_eq_true.2 ⟨_, (WideShapes.sorted_perm _).mem_iff.2 (List.mem_map.2 ⟨m, hm, rfl⟩), by rw [he]; exact WideAt.sameKey_self (K.isKey x)⟩
    rw [enc_has] at hm
    obtain ⟨u, hu⟩ := Option.isSome_iff_exists.1 hm
    have hu' := mget_mem hu
    have hv1 := hat (.held undef)
    rw [enc_atKey, hu] at hv1
    unfold rawR at hv
    injection hv with hv
    rw [← hv] at hv1
    injection hv1 with hv1
    subst hv1
    have e1 : mdel (l.filter fun p => left (K.lit p.1)) x = l.filter (fun p => left (K.lit p.1) && !(K.lit p.1).sameKey (K.lit x)) := by
      unfold mdel
      rw [List.filter_filter]
      refine List.filter_congr fun p hp => ?_
      rw [lit_sameKey]
      simp [Bool.and_comm]
    have e2 := ranges_cnt hrg
    rw [List.filter_map, List.length_map] at e2
    have e3 : cnt' = (mdel (l.filter fun p => left (K.lit p.1)) x).length := by
      rw [e2, e1]; rfl
    refine .inr ⟨(x, u), w', List.mem_filter.2 ⟨hu', hlk⟩, hrun, ⟨_, by rw [← e3]; exact hrg, e1, hok⟩, by rw [← e3]; exact hlt, hgr, hsz, hen⟩
end

section
variable {P : Program} {k : TypeId} {κ β : Type} {K : KeyT P k κ} {ev : β → Value} {b : Nat} {l : List (κ × β)} {t e : TypeId}
variable (w : World) {ops : Array Oper} {rest : List Oper} {o : Oper} {a : Act} {Q : Exit → Act → World → Prop}
theorem wpList_clear (hg : o.guard = none) (m : Operand) (hop : o.op = Op.call { callee := Callee.builtin Builtin.clear, args := #[m], argTypes := #[t] }) (h : MapAt K ev w b l) (ht : P.underlying t = some (.map k e)) (hm : a.eval m = .map (some b))
    (hK : ∀ w', MapAt K ev w' b [] → w.grownBy w' (some b) → w'.heap.size = w.heap.size → wpList P ops Q rest (a.put o.dst (.tuple #[])) w') : wpList P ops Q (o :: rest) a w := by
  refine wpList_plain hg fun K' hK' => ?_
  obtain ⟨w', hrun, r1, r2, r3⟩ := h.clear_run ht o.type
  unfold Oper.wp
  simp [execOp, hop, resolve, invoke, builtin, hm, hrun, Result.andThen]
  exact hK' _ _ (hK w' r1 r2 r3)
end
/-! ### at the operations, for the walk -/
section
variable {P : Program} {k : TypeId} {κ β : Type} [DecidableEq κ] {K : KeyT P k κ} {ev : β → Value} {b : Nat} {l : List (κ × β)} {t e : TypeId} {z : Value} {x : κ}
variable (w : World) {ops : Array Oper} {rest : List Oper} {o : Oper} {a : Act} {Q : Exit → Act → World → Prop}
theorem wpList_get (hg : o.guard = none) (m xo : Operand) (hop : o.op = Op.lookup t m xo false) (h : MapAt K ev w b l) (ht : P.underlying t = some (.map k e)) (hz : (zeroValue e).run P w = .ok z w) (x : κ) (hm : a.eval m = .map (some b)) (hxe : a.eval xo = K.val x) (hx : K.ok x)
    (hK : wpList P ops Q rest (a.put o.dst ((mget l x).elim z ev)) w) : wpList P ops Q (o :: rest) a w := by
  refine wpList_plain hg fun K' hK' => ?_
  unfold Oper.wp
  simp [execOp, hop, hm, hxe, h.get_run ht hz hx, Result.andThen]
  exact hK' _ _ hK
theorem wpList_ask (hg : o.guard = none) (m xo : Operand) (hop : o.op = Op.lookup t m xo true) (h : MapAt K ev w b l) (ht : P.underlying t = some (.map k e)) (hz : (zeroValue e).run P w = .ok z w) (x : κ) (hm : a.eval m = .map (some b)) (hxe : a.eval xo = K.val x) (hx : K.ok x)
    (hK : wpList P ops Q rest (a.put o.dst (.tuple #[(mget l x).elim z ev, .bool (mget l x).isSome])) w) : wpList P ops Q (o :: rest) a w := by
  refine wpList_plain hg fun K' hK' => ?_
  unfold Oper.wp
  simp [execOp, hop, hm, hxe, h.ask_run ht hz hx, Result.andThen]
  exact hK' _ _ hK
theorem wpList_getv (hg : o.guard = none) (m xo : Operand) (hop : o.op = Op.lookup t m xo false) (h : MapAt K ev w b l) (ht : P.underlying t = some (.map k e)) (hz : (zeroValue e).run P w = .ok z w) (x : κ) (hm : a.eval m = .map (some b)) (hxe : a.eval xo = K.val x) (hx : K.ok x)
    (v : Value) (hv : (mget l x).elim z ev = v) (hK : wpList P ops Q rest (a.put o.dst v) w) : wpList P ops Q (o :: rest) a w := by
  subst hv
  exact wpList_get w hg m xo hop h ht hz x hm hxe hx hK
theorem wpList_askv (hg : o.guard = none) (m xo : Operand) (hop : o.op = Op.lookup t m xo true) (h : MapAt K ev w b l) (ht : P.underlying t = some (.map k e)) (hz : (zeroValue e).run P w = .ok z w) (x : κ) (hm : a.eval m = .map (some b)) (hxe : a.eval xo = K.val x) (hx : K.ok x)
    (v : Value) (q : Bool) (hv : (mget l x).elim z ev = v) (hq : (mget l x).isSome = q) (hK : wpList P ops Q rest (a.put o.dst (.tuple #[v, .bool q])) w) : wpList P ops Q (o :: rest) a w := by
  subst hv hq
  exact wpList_ask w hg m xo hop h ht hz x hm hxe hx hK
theorem wpList_put (hg : o.guard = none) (m xo v : Operand) (hop : o.op = Op.mapUpdate t m xo v) (h : MapAt K ev w b l) (ht : P.underlying t = some (.map k e)) (x : κ) (y : β) (hm : a.eval m = .map (some b)) (hxe : a.eval xo = K.val x) (hv : a.eval v = ev y) (hx : K.ok x) (hn : l.length < maxLen)
    (hK : ∀ w', MapAt K ev w' b (mput K.lt l x y) → w.grownBy w' (some b) → w'.heap.size = w.heap.size → wpList P ops Q rest (a.put o.dst undef) w') : wpList P ops Q (o :: rest) a w := by
  refine wpList_plain hg fun K' hK' => ?_
  obtain ⟨w', hrun, r1, r2, r3⟩ := h.put_run ht hx hn y
  unfold Oper.wp
  simp [execOp, hop, hm, hxe, hv, hrun, Result.andThen]
  exact hK' _ _ (hK w' r1 r2 r3)
theorem wpList_del (hg : o.guard = none) (m xo : Operand) (hop : o.op = Op.call { callee := Callee.builtin Builtin.delete, args := #[m, xo], argTypes := #[t, k] }) (h : MapAt K ev w b l) (ht : P.underlying t = some (.map k e)) (x : κ) (hm : a.eval m = .map (some b)) (hxe : a.eval xo = K.val x) (hx : K.ok x)
    (hK : ∀ w', MapAt K ev w' b (mdel l x) → w.grownBy w' (some b) → w'.heap.size = w.heap.size → wpList P ops Q rest (a.put o.dst (.tuple #[])) w') : wpList P ops Q (o :: rest) a w := by
  refine wpList_plain hg fun K' hK' => ?_
  obtain ⟨w', hrun, r1, r2, r3⟩ := h.del_run ht hx o.type
  unfold Oper.wp
  simp [execOp, hop, resolve, invoke, builtin, hm, hxe, hrun, Result.andThen]
  exact hK' _ _ (hK w' r1 r2 r3)
theorem wpList_range (hg : o.guard = none) (m : Operand) (hop : o.op = Op.range t m) (h : MapAt K ev w b l) (ht : P.underlying t = some (.map k e)) (hm : a.eval m = .map (some b))
    (hK : ∀ w', RangeAt K ev w' b w.heap.size l l → w.grownBy w' none → w'.heap.size = w.heap.size + 1 → wpList P ops Q rest (a.put o.dst (.pointer (some ⟨w.heap.size, 0, none⟩))) w') : wpList P ops Q (o :: rest) a w := by
  refine wpList_plain hg fun K' hK' => ?_
  obtain ⟨w', hrun, r1, r2, r3⟩ := h.range_run ht
  unfold Oper.wp
  simp [execOp, hop, hm, hrun, Result.andThen]
  exact hK' _ _ (hK w' r1 r2 r3)
theorem wpList_next {r : Nat} {todo : List (κ × β)} (hg : o.guard = none) (it : Operand) (hop : o.op = Op.next it false) (h : RangeAt K ev w b r l todo) (hit : a.eval it = .pointer (some ⟨r, 0, none⟩))
    (hDone : todo = [] → wpList P ops Q rest (a.put o.dst (.tuple #[.bool false])) w)
    (hMore : ∀ (x : κ) (y : β) (w' : World), (x, y) ∈ todo → RangeAt K ev w' b r l (mdel todo x) → (mdel todo x).length < todo.length → w.grownBy w' (some r) → w'.heap.size = w.heap.size →
      (Instr.entry (.pointer (some ⟨r, 0, none⟩))).run P w' = .ok (.tuple #[K.val x, ev y]) w' → wpList P ops Q rest (a.put o.dst (.tuple #[.bool true, K.val x, ev y])) w') : wpList P ops Q (o :: rest) a w := by
  refine wpList_plain hg fun K' hK' => ?_
  unfold Oper.wp
  rcases h.next_run o.type with ⟨h0, hrun⟩ | ⟨p, w', hp, hrun, h1, h2, h3, h4, h5⟩
  · simp [execOp, hop, hit, hrun, Result.andThen]
    exact hK' _ _ (hDone h0)
  · simp [execOp, hop, hit, hrun, Result.andThen]
    exact hK' _ _ (hMore p.1 p.2 w' hp h1 h2 h3 h4 h5)
end
end Go.Proofs.Ytennddlihcamnaa
