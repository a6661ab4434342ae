/- Labels (chapter 8): how they lie in memory. Labels: Same and Twin of the reference (chapter 8), for later layers. Labels in an argument (chapter 9). A struct read inside an argument, its fields; a slice of whatever elements, opened as a list of things of one's own. What single operations of a drawn region yield; a region of comparisons that end in one call (for rows). -/
import Derived.Test.YtophfgijfmdbcaaProg
import Derived.Test.YtophfgijfmdbcaaMem
import Derived.Test.YtophfgijfmdbcaaOpen
import Derived.Test.YtophfgijfmdbcaaPart
import Derived.Test.YtophfgijfmdbcaaGrow
import Derived.IntWalk
import Derived.Sort.Walk0
import Derived.BigQuiet
import Derived.Laws.StructEq
import Derived.Lib.SmallJoins

namespace Go.Proofs.Ytophfgijfmdbcaa
open Go.RowKit

theorem quiet_left {P : Program} {f : FuncId} {args : Array Value} {w : World} {n : Nat} {v : Value}
    (h : Calls P f args (w.drewN n) fun e w' => e = .returned v ∧ w.drewN n = w') : Calls P f args (w.drewN n) fun e w'' => e = .returned v ∧ ∃ m, w'' = w.drewN m :=
  h.mono fun _ _ ⟨he, hm⟩ => ⟨he, n, hm.symm⟩
theorem quiet_add_left {P : Program} {f : FuncId} {args : Array Value} {w : World} {a n : Nat} {v : Value}
    (h : Calls P f args (w.drewN (a + n)) fun e w' => e = .returned v ∧ w.drewN (a + n) = w') :
    Calls P f args (w.drewN (a + n)) fun e w'' => e = .returned v ∧ ∃ m, w'' = w.drewN (a + m) :=
  h.mono fun _ _ ⟨he, hm⟩ => ⟨he, n, hm.symm⟩

/-! ### how labels lie in memory -/
/-- A label: its name, its value. -/
abbrev Lab := ByteArray × ByteArray
def labCells (l : List Lab) : List Value := l.flatMap fun x => [.string x.1, .string x.2]
theorem labCells_len (l : List Lab) : (labCells l).length = l.length * 2 := by
  induction l with
  | nil => rfl
  | cons x r ih => simp only [labCells, List.flatMap_cons, List.length_append, List.length_cons, List.length_nil] at ih ⊢; omega
theorem labCells_get : ∀ (l : List Lab) (i : Nat) (hi : i < l.length), (labCells l)[i * 2]? = some (.string l[i].1) ∧ (labCells l)[i * 2 + 1]? = some (.string l[i].2)
  | [], i, hi => absurd hi (by simp)
  | x :: r, 0, _ => ⟨rfl, rfl⟩
  | x :: r, i + 1, hi => by
    have h := labCells_get r i (by simpa using hi)
    have e1 : (i + 1) * 2 = i * 2 + 1 + 1 := by omega
    rw [e1]
    exact h
theorem labCells_app (l m : List Lab) : labCells (l ++ m) = labCells l ++ labCells m := by simp [labCells]
theorem labCells_one (l : List Lab) : ∀ u ∈ labCells l, u.oneCell' = true := by
  intro u hu
  obtain ⟨x, _, hu⟩ := List.mem_flatMap.1 hu
  simp at hu
  rcases hu with rfl | rfl <;> rfl
/-- A slice of labels reads. -/
def Labs (w : World) (B : Nat) (A : Option Addr) (l : List Lab) : Prop := Reads w B 2 A l.length (labCells l)
section
variable {w w' : World} {B B' : Nat} {A : Option Addr} {l : List Lab}
theorem Labs.below (h : Labs w B A l) (hb : Below B w w') : Labs w' B A l := Reads.below h hb
theorem Labs.more (h : Labs w B A l) (hb : B ≤ B') : Labs w B' A l := Reads.more h hb
theorem Labs.to (h : Labs w B A l) (hb : Below B w w') (hB : B ≤ B') : Labs w' B' A l := (h.below hb).more hB
theorem Labs.nil_ : Labs w B A [] := ⟨rfl, fun h => absurd h (by simp)⟩
theorem Labs.cell (h : Labs w B A l) (hp : 0 < l.length) : ∃ b off, A = some ⟨b, off, none⟩ ∧ b < B ∧ ∀ j (hj : j < l.length), w.cell? ⟨b, off + j * 2, none⟩ = some (.string l[j].1) ∧ w.cell? ⟨b, off + j * 2 + 1, none⟩ = some (.string l[j].2) := by
  obtain ⟨b, off, e, hb, hc⟩ := h.2 hp
  exact ⟨b, off, e, hb, fun j hj => ⟨hc _ _ (labCells_get l j hj).1, by rw [Nat.add_assoc]; exact hc _ _ (labCells_get l j hj).2⟩⟩
end
/-- All names and values are short enough to be counted. -/
def Fit (l : List Lab) : Prop := ∀ x ∈ l, x.1.size ≤ 140737488351232 ∧ x.2.size ≤ 140737488351232

def labAt (l : List Lab) (i : Nat) : Lab := l.getD i (ByteArray.empty, ByteArray.empty)
theorem labAt_eq {l : List Lab} {i : Nat} (h : i < l.length) : l[i] = labAt l i := by simp [labAt, List.getD, List.getElem?_eq_getElem h]
theorem fit_at {l : List Lab} (h : Fit l) (i : Nat) : (labAt l i).1.size ≤ 140737488351232 ∧ (labAt l i).2.size ≤ 140737488351232 := by
  rcases Nat.lt_or_ge i l.length with h1 | h1
  · rw [← labAt_eq h1]; exact h _ (List.getElem_mem h1)
  · have e : labAt l i = (ByteArray.empty, ByteArray.empty) := by simp [labAt, List.getD, List.getElem?_eq_none h1]
    rw [e]
    exact ⟨by simp, by simp⟩
theorem Labs.cellAt {w : World} {B : Nat} {A : Option Addr} {l : List Lab} (h : Labs w B A l) (hp : 0 < l.length) : ∃ b off, A = some ⟨b, off, none⟩ ∧ b < B ∧ ∀ j, j < l.length → w.cell? ⟨b, off + j * 2, none⟩ = some (.string (labAt l j).1) ∧ w.cell? ⟨b, off + j * 2 + 1, none⟩ = some (.string (labAt l j).2) := by
  obtain ⟨b, off, e, hb, hc⟩ := h.cell hp
  exact ⟨b, off, e, hb, fun j hj => by rw [← labAt_eq hj]; exact hc j hj⟩

end Go.Proofs.Ytophfgijfmdbcaa

namespace Go.Proofs.Ytophfgijfmdbcaa
open Go.RowKit

theorem Try.infoLab : (Try.prog.info? 95).map (fun i => (i.zero, i.size, i.bytes)) = some (some (.agg #[.string ⟨#[]⟩, .string ⟨#[]⟩]), 2, 32) := by kernel_rfl

theorem twin_calls (w : World) {B c : Nat} {A : Option Addr} {l : List Lab} (h : Labs w B A l) (hB : B ≤ w.heap.size) (hn : l.length ≤ 4398046511104) :
    Calls Try.prog 48 #[.slice A l.length c] w fun e w' => ∃ A' c', e = .returned (.slice A' l.length c') ∧ Labs w' w'.heap.size A' l ∧ w'.ownsRow w.heap.size 95 2 (.slice A' l.length c') l.length (labCells l) ∧ Below w.heap.size w w' := by
  go_enter Try.func48, Try.ntmps48
  go_wp2_with (at_builtin; go_must (refine wpList_append_sl _ rfl (.tmp 3) (.tmp 4) _ rfl w.heap.size 95 _ 2 32 Try.underlying54 Try.infoLab rfl (by omega) _ _ _ rfl (World.ownsRow_made w #[] 0 (Nat.le_refl _) (Nat.zero_le _) rfl) B A l.length c (labCells l) rfl (Reads.to h ((Below.refl B w).alloc hB _) (Nat.le_refl _)) (labCells_one l) (by unfold maxLen; omega) (by omega) (by simp) ?_))
  intro A' c' w1 hc1 hc2 hrd hbel hown _ _
  have hrd2 : Labs w1 w1.heap.size A' l := by simpa [Labs] using hrd
  have hown2 : w1.ownsRow w.heap.size 95 2 (.slice A' l.length c') l.length (labCells l) := by simpa using hown
  have h0 : (0 : Nat) + l.length = l.length := by omega
  go_wp2
  go_ret
  exact ⟨A', c', by simp, hrd2, hown2, ((Below.refl _ _).alloc (Nat.le_refl _) _).trans hbel⟩

def sameB (l m : List Lab) : Bool := decide (l = m)
theorem same_all {l m : List Lab} (hl : l.length = m.length) (h : ∀ i, i < l.length → labAt l i = labAt m i) : l = m := by
  refine List.ext_getElem hl fun i h1 h2 => ?_
  rw [labAt_eq h1, labAt_eq h2]
  exact h i h1

theorem bytes_eqd (a b : ByteArray) : (a.toList == b.toList) = decide (a = b) := by
  rw [ByteArray.toList_eq, ByteArray.toList_eq]
  by_cases h : a = b
  · simp [h]
  · have h2 : a.data.toList ≠ b.data.toList := fun e => h (ByteArray.ext (Array.toList_inj.1 e))
    rw [dcf h]
    simpa using h2

theorem neq_lab (W : World) (x y : Lab) : (binOp .neq 95 (.agg #[.string x.1, .string x.2]) (.agg #[.string y.1, .string y.2])).run Try.prog W = .ok (.bool (!(decide (x = y)))) W := by
  have u3 := Try.underlying9
  have a3 := Try.isAgg9
  have z3 := Try.sizeOf9
  have hS : Try.prog.underlying 95 = some (.struct (Try.prog.fieldsOf 95)) := by kernel_rfl
  have hp : Try.prog.stoodInHeld 95 = false := by kernel_rfl
  rw [run_neq_struct, show (10000 : Nat) = 9999 + 1 from rfl, run_equalIn_agg W 9999 95 _ _ hS hp]
  simp only [Program.fieldsOf, Try.underlying95]
  go_simp
  have e1 : (x.1.toList == y.1.toList) = decide (x.1 = y.1) := bytes_eqd _ _
  have e2 : (x.2.toList == y.2.toList) = decide (x.2 = y.2) := bytes_eqd _ _
  obtain ⟨x1, x2⟩ := x
  obtain ⟨y1, y2⟩ := y
  simp only at e1 e2 ⊢
  by_cases h1 : x1 = y1 <;> by_cases h2 : x2 = y2 <;> simp [h1, h2] at e1 e2 ⊢ <;> simp [*]

set_option maxRecDepth 100000 in
set_option maxHeartbeats 800000 in
theorem sameR_calls (w : World) {B1 B2 c1 c2 : Nat} {A1 A2 : Option Addr} {l m : List Lab} (h1 : Labs w B1 A1 l) (h2 : Labs w B2 A2 m) (hn1 : l.length ≤ 140737488355328) (hn2 : m.length ≤ 140737488355328) :
    Calls Try.prog 43 #[.slice A1 l.length c1, .slice A2 m.length c2] w fun e w' => e = .returned (.bool (sameB l m)) ∧ Below w.heap.size w w' := by
  by_cases hlen : l.length = m.length
  · have hne : (((l.length : Int)) != (m.length : Int)) = false := nef (by omega)
    have HL := Lib.hid hlen
    clear hlen
    go_enter Try.func43, Try.ntmps43
    go_wp2
    go_loopw [13] (fun i wr => ∃ k n : Nat, k ≤ l.length ∧ i = .int .i64 (k : Int) ∧ Hid (∀ i, i < k → labAt l i = labAt m i) ∧ wr = w.drewN n) (fun i _ => l.length - (intOf i).toNat)
    case atStart => exact ⟨0, 0, Nat.zero_le _, rfl, Lib.hid fun i hi => absurd hi (by omega), rfl⟩
    case round =>
      obtain ⟨k, n, hk, rfl, hall, rfl⟩ := hrel
      by_cases hlt : k < l.length
      · have hlm := HL.out
        obtain ⟨b1, off1, rfl, _, hc1⟩ := h1.cellAt (show 0 < l.length by omega)
        obtain ⟨b2, off2, rfl, _, hc2⟩ := h2.cellAt (show 0 < m.length by omega)
        obtain ⟨p0, p1⟩ := hc1 k hlt
        obtain ⟨q0, q1⟩ := hc2 k (by omega)
        have i0 : (0 : Int) ≤ (k : Int) := by omega
        have i9 : (k : Int) < (l.length : Int) := by omega
        have i8 : (k : Int) < (m.length : Int) := by omega
        clear hc1 hc2 hlm
        have hq := fun W => neq_lab W (labAt l k) (labAt m k)
        by_cases he : labAt l k = labAt m k
        · have hq' : ∀ W, (binOp .neq 95 (.agg #[.string (labAt l k).1, .string (labAt l k).2]) (.agg #[.string (labAt m k).1, .string (labAt m k).2])).run Try.prog W = .ok (.bool false) W := fun W => by rw [hq, dct he]; rfl
          have Hstep : Hid (∀ i, i < k + 1 → labAt l i = labAt m i) := Lib.hid fun i hi => by
            rcases Nat.lt_or_ge i k with h1 | h1
            · exact hall.out i h1
            · obtain rfl : i = k := by omega
              exact he
          clear hq he
          go_wp2_with fail
          go_quiet (fail)
          go_wp2
          go_roundw
          case rel => exact ⟨k + 1, n + nq, by omega, by go_num, Hstep, by simp⟩
          case measure => simp [intOf]; omega
        · have hq' : ∀ W, (binOp .neq 95 (.agg #[.string (labAt l k).1, .string (labAt l k).2]) (.agg #[.string (labAt m k).1, .string (labAt m k).2])).run Try.prog W = .ok (.bool true) W := fun W => by rw [hq, dcf he]; rfl
          have Hno : Hid (sameB l m = false) := Lib.hid (dcf fun h => he (by rw [h]))
          clear hq he
          go_wp2_with fail
          go_quiet (fail)
          go_wp2
          go_ret
          exact ⟨by rw [Hno.out]; rfl, below_drewN_ (below_drewN_ (Below.refl _ _) _) _⟩
      · obtain rfl : k = l.length := by omega
        have Hy : Hid (sameB l m = true) := Lib.hid (dct (same_all HL.out hall.out))
        go_wp2
        go_ret
        exact ⟨by rw [Hy.out]; rfl, below_drewN_ (Below.refl _ _) _⟩
  · have hne : (((l.length : Int)) != (m.length : Int)) = true := net (by omega)
    have Hno : Hid (sameB l m = false) := Lib.hid (dcf fun h => hlen (by rw [h]))
    clear hlen
    go_enter Try.func43, Try.ntmps43
    go_wp2
    go_ret
    exact ⟨by rw [Hno.out]; rfl, Below.refl _ _⟩

end Go.Proofs.Ytophfgijfmdbcaa

namespace Go.Proofs.Ytophfgijfmdbcaa
open Go.RowKit
open Go.ChangeShapes Go.WideShapes

theorem part_labs {H : Type} {enc : TypeId × Value → H} {W : World} {v : Value} {d : DataW H} (h : Part enc Try.prog W 54 v d) :
    ∃ (A : Option Addr) (c : Nat) (l : List Lab), v = .slice A l.length c ∧ l.length ≤ c ∧ l.length ≤ 4398046511104 ∧ Labs W W.heap.size A l ∧ Fit l := by
  obtain ⟨A, n, c, rfl, hn, hm, hby, hc⟩ := h.structs Try.underlying54 Try.underlying95 (by kernel_rfl) (by kernel_rfl) (by decide)
  have hbz : Try.prog.bytesOf 95 = 32 := by kernel_rfl
  rw [hbz] at hby
  rcases Nat.eq_zero_or_pos n with h0 | h0
  · exact ⟨A, c, [], by rw [h0]; rfl, Nat.zero_le _, Nat.zero_le _, Labs.nil_, by simp [Fit]⟩
  · obtain ⟨b, off, rfl, hb, hi⟩ := hc h0
    obtain ⟨l, hl, hp⟩ := choose_list (p := fun i (x : Lab) => W.cell? ⟨b, off + i * 2, none⟩ = some (.string x.1) ∧ W.cell? ⟨b, off + i * 2 + 1, none⟩ = some (.string x.2) ∧ x.1.size ≤ 140737488351232 ∧ x.2.size ≤ 140737488351232) n (fun i hin => by
      obtain ⟨u0, y0, c0, t0⟩ := hi i hin 0 _ rfl
      obtain ⟨u1, y1, c1, t1⟩ := hi i hin 1 _ rfl
      obtain ⟨x0, rfl, s0⟩ := t0.str Try.underlying9
      obtain ⟨x1, rfl, s1⟩ := t1.str Try.underlying9
      exact ⟨(x0, x1), c0, c1, s0, s1⟩)
    refine ⟨some ⟨b, off, none⟩, c, l, by rw [hl], by omega, by omega, ⟨labCells_len l, fun _ => ⟨b, off, rfl, hb, fun j u hu => ?_⟩⟩, fun x hx => ?_⟩
    · have hj : j < l.length * 2 := by rw [← labCells_len]; exact (List.getElem?_eq_some_iff.1 hu).1
      have hji : j / 2 < l.length := by omega
      obtain ⟨g0, g1⟩ := labCells_get l (j / 2) hji
      obtain ⟨q0, q1, _⟩ := hp (j / 2) hji
      rcases Nat.mod_two_eq_zero_or_one j with hz | hz
      · have e : j = j / 2 * 2 := by omega
        rw [← e] at g0 q0
        rw [hu] at g0
        have g0 := Option.some.inj g0
        rw [g0]; exact q0
      · have e : j = j / 2 * 2 + 1 := by omega
        rw [← e] at g1
        rw [Nat.add_assoc, ← e] at q1
        rw [hu] at g1
        have g1 := Option.some.inj g1
        rw [g1]; exact q1
    · obtain ⟨i, hi', rfl⟩ := List.getElem_of_mem hx
      exact (hp i hi').2.2

/-! ### records -/
/-- A record, and where its labels lie. -/
structure Rec where
  kind : Int
  time : Int
  A : Option Addr
  c : Nat
  labs : List Lab
  text : ByteArray
  value : Int
  null : Bool
def Rec.vals (r : Rec) : List Value := [.int .i64 r.kind, .int .i64 r.time, .slice r.A r.labs.length r.c, .string r.text, .int .i64 r.value, .bool r.null]
def Rec.agg (r : Rec) : Value := .agg #[.int .i64 r.kind, .int .i64 r.time, .slice r.A r.labs.length r.c, .string r.text, .int .i64 r.value, .bool r.null]
/-- The record's labels lie in memory, all that it holds can be counted, its whole numbers are of their kind. -/
structure Rec.ok (w : World) (B : Nat) (r : Rec) : Prop where
  labs : Labs w B r.A r.labs
  fit : Fit r.labs
  len : r.labs.length ≤ 4398046511104
  text : r.text.size ≤ 140737488351232
  time : -9223372036854775808 ≤ r.time ∧ r.time ≤ 9223372036854775807
  value : -9223372036854775808 ≤ r.value ∧ r.value ≤ 9223372036854775807
theorem Rec.ok.below {w w' : World} {B : Nat} {r : Rec} (h : r.ok w B) (hb : Below B w w') : r.ok w' B := ⟨h.labs.below hb, h.fit, h.len, h.text, h.time, h.value⟩
theorem Rec.ok.more {w : World} {B B' : Nat} {r : Rec} (h : r.ok w B) (hb : B ≤ B') : r.ok w B' := ⟨h.labs.more hb, h.fit, h.len, h.text, h.time, h.value⟩
end Go.Proofs.Ytophfgijfmdbcaa

namespace Go.Proofs.Ytophfgijfmdbcaa
open Go.RowKit
open Go.ChangeShapes Go.WideShapes

/-- Cells read inside an argument: they read as a value of a type, and each part of it is within reach. -/
structure PartC {H : Type} (enc : TypeId × Value → H) (P : Program) (W : World) (t : TypeId) (cs : List Value) (d : DataW H) : Prop where
  trod : ∃ (m : Nat) (p : List MemPlace), DataW.trod enc P W 0 (fun _ => true) true m t cs = some (d, p)
  sized : ∀ n ∈ d.weights P t, n ≤ reachBytes

section
variable {H : Type} {enc : TypeId × Value → H} {P : Program} {W : World} {t e : TypeId} {v : Value} {cs : List Value} {d : DataW H}
theorem PartC.one (h : PartC enc P W t [v] d) : Part enc P W t v d := ⟨h.trod, h.sized⟩
theorem Part.toC (h : Part enc P W t v d) : PartC enc P W t [v] d := ⟨h.trod, h.sized⟩
theorem PartC.len {fs : Array Field} (h : PartC enc P W t cs d) (hE : P.underlying t = some (.struct fs)) : cs.length = P.cellsOf t := by
  obtain ⟨m, p, ht⟩ := h.trod
  obtain ⟨_, _, _, _, hl, _⟩ := DataW.trod_struct hE ht
  exact hl
theorem PartC.field {fs : Array Field} (h : PartC enc P W t cs d) (hE : P.underlying t = some (.struct fs)) {j : Nat} {f : Field} (hj : fs[j]? = some f) : ∃ y, PartC enc P W f.type ((cs.drop f.offset).take (P.cellsOf f.type)) y := by
  obtain ⟨m, p, ht⟩ := h.trod
  obtain ⟨ys, n', hn', hy, hlen, hyl, hfd⟩ := DataW.trod_struct hE ht
  simp only [Prod.mk.injEq] at hy
  have hjl : j < fs.size := (Array.getElem?_eq_some_iff.1 hj).1
  have hys : ys[j]? = some (ys[j]'(by omega)) := List.getElem?_eq_getElem (by omega)
  refine ⟨(ys[j]'(by omega)).1, ⟨n', (ys[j]'(by omega)).2, (hfd j f hj).trans hys⟩, fun k hk' => h.sized k ?_⟩
  rw [hy.1]
  simp only [DataW.weights, hE]
  refine DataW.weights_mem_each (j := j) (t := f.type) (d := (ys[j]'(by omega)).1) ?_ ?_ k hk'
  · rw [List.getElem?_map, Array.getElem?_toList, hj]; rfl
  · rw [List.getElem?_map, hys]; rfl
theorem PartC.fieldAt {fs : Array Field} (h : PartC enc P W t cs d) (hE : P.underlying t = some (.struct fs)) (j o k : Nat) (t' : TypeId) (hj : (fs[j]?).map (fun f => (f.type, f.offset, P.cellsOf f.type)) = some (t', o, k)) : ∃ y, PartC enc P W t' ((cs.drop o).take k) y := by
  cases hf : fs[j]? with
  | none => rw [hf] at hj; cases hj
  | some f =>
    rw [hf] at hj
    simp only [Option.map_some, Option.some.injEq, Prod.mk.injEq] at hj
    obtain ⟨rfl, rfl, rfl⟩ := hj
    exact h.field hE hf
/-- A slice of whatever elements: each element's cells, and that they read. -/
theorem Part.slots (h : Part enc P W t v d) (hU : P.underlying t = some (.slice e)) (hpos : 0 < P.cellsOf e) :
    ∃ (A : Option Addr) (n c : Nat), v = .slice A n c ∧ n ≤ c ∧ c ≤ maxLen ∧ c * P.bytesOf e ≤ 140737488351232 ∧
      (0 < n → ∃ b off, A = some ⟨b, off, none⟩ ∧ b < W.heap.size ∧ ∀ i, i < n → ∃ cs y, cs.length = P.cellsOf e ∧ (∀ j u, cs[j]? = some u → W.cell? ⟨b, off + (i * P.cellsOf e + j), none⟩ = some u) ∧ PartC enc P W e cs y) := by
  have hs := h.sized
  obtain ⟨m, p, h⟩ := h.trod
  rcases Go.Deep.open_slice hU h with ⟨hcs, _⟩ | ⟨x, l, c', m', nf, Dd, Pl, hcs, _, hl, hm, hmm, hx, hi⟩
  · simp only [List.cons.injEq, and_true] at hcs
    exact ⟨none, 0, 0, hcs, Nat.le_refl _, by simp [maxLen], by omega, fun h => absurd h (by omega)⟩
  · simp only [List.cons.injEq, and_true] at hcs
    subst hcs
    have hmm : m' = c' := by simpa using hmm
    subst hmm
    simp only [Prod.mk.injEq] at hx
    obtain ⟨rfl, rfl⟩ := hx
    have hr := hs (((List.range l).map Dd).length * P.bytesOf e + ((List.range (m' - l)).map fun j => Dd (l + j)).length * P.bytesOf e) (by simp [DataW.weights, hU, Nat.add_mul])
    simp only [List.length_map, List.length_range] at hr
    rw [← Nat.add_mul, show l + (m' - l) = m' by omega] at hr
    refine ⟨some x, l, m', rfl, hl, hm, by simpa [reachBytes] using hr, fun hn => ?_⟩
    have key : ∀ i, i < l → ∃ cs y, cs.length = P.cellsOf e ∧ (∀ j u, cs[j]? = some u → W.cell? (x.add (i * P.cellsOf e + j)) = some u) ∧ PartC enc P W e cs y := fun i hin => by
      obtain ⟨cs', hc, ht'⟩ := hi i (by omega)
      obtain ⟨_, hcl, hat⟩ := World.cells?_some hc
      refine ⟨cs', Dd i, hcl, fun j u hu => ?_, ⟨nf, Pl i, ht'⟩, fun k hk => hs k ?_⟩
      · have hj : j < P.cellsOf e := by rw [← hcl]; exact (List.getElem?_eq_some_iff.1 hu).1
        rw [← Go.Deep.add_add, hat j hj, hu]
      · have h3 := weights_all ((List.range l).map Dd) (Dd i) (List.mem_map.2 ⟨i, List.mem_range.2 hin, rfl⟩) k hk
        simp only [DataW.weights, hU]
        simp only [List.mem_append, List.mem_cons]
        simp [h3]
    obtain ⟨b, off, spot⟩ := x
    obtain ⟨cs0, y0, hl0, hc0, _⟩ := key 0 hn
    have hc00 := hc0 0 (cs0[0]'(by omega)) (List.getElem?_eq_getElem (by omega))
    have hspot : spot = none := by simpa [Addr.add] using World.cell?_spot hc00
    subst hspot
    refine ⟨b, off, rfl, ?_, fun i hi' => ?_⟩
    · have := World.block_lt_of_cell? W _ hc00
      simpa [Addr.add] using this
    · obtain ⟨cs, y, h3, h4, h5⟩ := key i hi'
      refine ⟨cs, y, h3, fun j u hu => ?_, h5⟩
      have := h4 j u hu
      rwa [addr_add] at this
/-- A slice of whatever elements, read as a list of things of one's own. -/
theorem Part.rows {α : Type} {size : Nat} (h : Part enc P W t v d) (hU : P.underlying t = some (.slice e)) (hC : P.cellsOf e = size) (hpos : 0 < size)
    (cells : α → List Value) (good : α → Prop) (hx : ∀ cs y, cs.length = size → PartC enc P W e cs y → ∃ x, good x ∧ cells x = cs) (hlen : ∀ x, (cells x).length = size) :
    ∃ (A : Option Addr) (c : Nat) (l : List α), v = .slice A l.length c ∧ l.length ≤ c ∧ c ≤ maxLen ∧ c * P.bytesOf e ≤ 140737488351232 ∧ Reads W W.heap.size size A l.length (l.flatMap cells) ∧ ∀ x ∈ l, good x := by
  obtain ⟨A, n, c, rfl, hn, hm, hby, hc⟩ := h.slots hU (by omega)
  rcases Nat.eq_zero_or_pos n with h0 | h0
  · subst h0
    exact ⟨A, c, [], rfl, Nat.zero_le _, hm, hby, ⟨by simp, fun h => absurd h (by simp)⟩, by simp⟩
  · obtain ⟨b, off, rfl, hb, hi⟩ := hc h0
    rw [hC] at hi
    obtain ⟨l, hl, hp⟩ := choose_list (p := fun i (x : α) => good x ∧ ∀ j u, (cells x)[j]? = some u → W.cell? ⟨b, off + (i * size + j), none⟩ = some u) n (fun i hin => by
      obtain ⟨cs, y, h1, h2, h3⟩ := hi i hin
      obtain ⟨x, hg, rfl⟩ := hx cs y h1 h3
      exact ⟨x, hg, h2⟩)
    refine ⟨some ⟨b, off, none⟩, c, l, by rw [hl], by omega, hm, hby, ⟨flatMap_len hlen l, fun _ => ⟨b, off, rfl, hb, fun j u hu => ?_⟩⟩, fun x hx => ?_⟩
    · have hj : j < l.length * size := by rw [← flatMap_len hlen]; exact (List.getElem?_eq_some_iff.1 hu).1
      have hji : j / size < l.length := (Nat.div_lt_iff_lt_mul hpos).2 hj
      have hjm := Nat.mod_lt j hpos
      have e : j / size * size + j % size = j := by rw [Nat.mul_comm]; exact Nat.div_add_mod j size
      have g := flatMap_get hlen l (j / size) hji (j % size) hjm
      rw [e] at g
      have q := (hp (j / size) hji).2 (j % size) u (by rw [← g, hu])
      rwa [e] at q
    · obtain ⟨i, hi', rfl⟩ := List.getElem_of_mem hx
      exact (hp i hi').1
end
end Go.Proofs.Ytophfgijfmdbcaa

namespace Go.Proofs.Ytophfgijfmdbcaa.Opr
open Go.RowKit Go.Proofs.Ytophfgijfmdbcaa
section
variable {P : Program} {Q : Exit → Act → World → Prop}
theorem run_fa {o : Oper} {b : Act} (W : World) (x : Operand) {t : TypeId} {k : Nat} (ho : o.op = .fieldAddr t x k) {u r : Value} (hx : b.eval x = u) (hr : ∀ W, (Instr.fieldAt t u k).run P W = .ok r W) : (execOp b.eval o).run P W = .ok (.value r) W := by
  unfold execOp
  simp only [ho, hx]
  simp [hr]
theorem run_ld {o : Oper} {b : Act} (W : World) (x : Operand) {t : TypeId} (ho : o.op = .load t x) {u r : Value} (hx : b.eval x = u) (hr : (Instr.loadAt t u).run P W = .ok r W) : (execOp b.eval o).run P W = .ok (.value r) W := by
  unfold execOp
  simp only [ho, hx]
  simp [hr]
theorem wp_call1 {o : Oper} {b : Act} {w : World} {K : Act → World → Prop} {f : FuncId} {x : Operand} {ts : Array TypeId} (ho : o.op = .call { callee := .value (.func f), args := #[x], argTypes := ts }) {u : Value} (hx : b.eval x = u)
    (hent : (callFunc f #[u]).run P w = .ok (.enter f #[u]) w)
    (h : Calls P f #[u] w fun e w'' => ∃ r, e = .returned r ∧ K (b.put o.dst r) w'') : o.wp P b w K Q := by
  refine wp_of_call ?_ h
  have hf : b.eval (.func f) = .func (.func f) #[] #[] := rfl
  unfold execOp
  simp only [ho, resolve, invoke, hx, hf, Deferred.ofValue, Array.empty_append, Array.append_empty, hent, List.map_toArray, List.map_cons, List.map_nil, Sem.run_bind, Sem.run_pure, Result.andThen_ok]
end
end Go.Proofs.Ytophfgijfmdbcaa.Opr
