/- Rows (chapter 9): how they lie in memory; the argument []api.Row opened. -/
import Derived.Test.YtennddlihcamnaaProg
import Derived.Test.YtennddlihcamnaaRecA
import Derived.Test.YtennddlihcamnaaPartC
import Derived.Test.YtennddlihcamnaaSrHL
namespace Go.Proofs.Ytennddlihcamnaa
set_option linter.unusedVariables false
set_option linter.unusedSimpArgs false
open Go.RowKit Go.Proofs.Ytennddlihcamnaa.So
open Go.ChangeShapes Go.WideShapes

/-- A row, and where its labels lie. -/
structure Rw where
  kind : Int
  time : Int
  A : Option Addr
  cp : Nat
  labs : List Lab
  text : ByteArray
  value : Int
  null : Bool
  maker : Int
  seq : Int
  place : Int
deriving Inhabited
namespace Rw
def c (x : Rw) : Nat → Value
  | 0 => .int .i64 x.kind
  | 1 => .int .i64 x.time
  | 2 => .slice x.A x.labs.length x.cp
  | 3 => .string x.text
  | 4 => .int .i64 x.value
  | 5 => .bool x.null
  | 6 => .int .i64 x.maker
  | 7 => .int .i64 x.seq
  | _ => .int .i64 x.place
theorem one (x : Rw) (j : Nat) : (c x j).oneCell' = true := by
  unfold c
  split <;> rfl
/-- The row's labels lie in memory; all that it holds can be counted. -/
structure ok (w : World) (B : Nat) (x : Rw) : Prop where
  labs : Labs w B x.A x.labs
  fit : Fit x.labs
  len : x.labs.length ≤ 4398046511104
  text : x.text.size ≤ 140737488351232
  time : -9223372036854775808 ≤ x.time ∧ x.time ≤ 9223372036854775807
  value : -9223372036854775808 ≤ x.value ∧ x.value ≤ 9223372036854775807
theorem ok.below {w w' : World} {B : Nat} {x : Rw} (h : ok w B x) (hb : Below B w w') : ok w' B x := ⟨h.labs.below hb, h.fit, h.len, h.text, h.time, h.value⟩
theorem ok.more {w : World} {B B' : Nat} {x : Rw} (h : ok w B x) (hb : B ≤ B') : ok w B' x := ⟨h.labs.more hb, h.fit, h.len, h.text, h.time, h.value⟩
/-- The same row, wherever the labels lie. -/
def logic (x : Rw) : Rw := { x with A := none, cp := 0 }
end Rw
def rwA (x : Rw) : Value := .agg #[.int .i64 x.kind, .int .i64 x.time, .slice x.A x.labs.length x.cp, .string x.text, .int .i64 x.value, .bool x.null, .int .i64 x.maker, .int .i64 x.seq, .int .i64 x.place]
/-- A slice of rows reads. -/
structure Rows (w : World) (B : Nat) (A : Option Addr) (l : List Rw) : Prop where
  reads : Reads w B 9 A l.length (Sr.flat Rw.c l)
  each : ∀ x ∈ l, x.ok w B
theorem Rows.below {w w' : World} {B : Nat} {A : Option Addr} {l : List Rw} (h : Rows w B A l) (hb : Below B w w') : Rows w' B A l := ⟨h.reads.below hb, fun x hx => (h.each x hx).below hb⟩
theorem Rows.more {w : World} {B B' : Nat} {A : Option Addr} {l : List Rw} (h : Rows w B A l) (hb : B ≤ B') : Rows w B' A l := ⟨h.reads.more hb, fun x hx => (h.each x hx).more hb⟩
theorem rflat_one (l : List Rw) : ∀ u ∈ Sr.flat Rw.c l, u.oneCell' = true := by
  intro u hu
  simp only [Sr.flat, List.mem_flatMap] at hu
  obtain ⟨x, _, hx⟩ := hu
  simp [Sr.nine] at hx
  rcases hx with rfl | rfl | rfl | rfl | rfl | rfl | rfl | rfl | rfl <;> exact Rw.one x _
theorem reads_nine {w : World} {B : Nat} {A : Option Addr} {l : List Rw} (h : Reads w B 9 A l.length (Sr.flat Rw.c l)) (hp : 0 < l.length) : ∃ b off, A = some ⟨b, off, none⟩ ∧ b < B ∧ ∀ i, i < l.length → w.cell? ⟨b, off + i * 9, none⟩ = some (.int .i64 (Sr.gt l i).kind) ∧ w.cell? ⟨b, off + i * 9 + 1, none⟩ = some (.int .i64 (Sr.gt l i).time) ∧ w.cell? ⟨b, off + i * 9 + 2, none⟩ = some (.slice (Sr.gt l i).A (Sr.gt l i).labs.length (Sr.gt l i).cp) ∧ w.cell? ⟨b, off + i * 9 + 3, none⟩ = some (.string (Sr.gt l i).text) ∧ w.cell? ⟨b, off + i * 9 + 4, none⟩ = some (.int .i64 (Sr.gt l i).value) ∧ w.cell? ⟨b, off + i * 9 + 5, none⟩ = some (.bool (Sr.gt l i).null) ∧ w.cell? ⟨b, off + i * 9 + 6, none⟩ = some (.int .i64 (Sr.gt l i).maker) ∧ w.cell? ⟨b, off + i * 9 + 7, none⟩ = some (.int .i64 (Sr.gt l i).seq) ∧ w.cell? ⟨b, off + i * 9 + 8, none⟩ = some (.int .i64 (Sr.gt l i).place) := by
  obtain ⟨b, off, e, hb, hc⟩ := h.2 hp
  have k := fun i (hi : i < l.length) j (hj : j < 9) => hc _ _ (Sr.flat_get Rw.c l i j hi hj)
  refine ⟨b, off, e, hb, fun i hi => ⟨k i hi 0 (by omega), ?_, ?_, ?_, ?_, ?_, ?_, ?_, ?_⟩⟩
  · rw [Nat.add_assoc]; exact k i hi 1 (by omega)
  · rw [Nat.add_assoc]; exact k i hi 2 (by omega)
  · rw [Nat.add_assoc]; exact k i hi 3 (by omega)
  · rw [Nat.add_assoc]; exact k i hi 4 (by omega)
  · rw [Nat.add_assoc]; exact k i hi 5 (by omega)
  · rw [Nat.add_assoc]; exact k i hi 6 (by omega)
  · rw [Nat.add_assoc]; exact k i hi 7 (by omega)
  · rw [Nat.add_assoc]; exact k i hi 8 (by omega)
theorem reads_nine_at {w : World} {B : Nat} {A : Option Addr} {l : List Rw} (h : Reads w B 9 A l.length (Sr.flat Rw.c l)) {b off i : Nat} (hA : A = some ⟨b, off, none⟩) (hi : i < l.length) : w.cell? ⟨b, off + i * 9, none⟩ = some (.int .i64 (Sr.gt l i).kind) ∧ w.cell? ⟨b, off + i * 9 + 1, none⟩ = some (.int .i64 (Sr.gt l i).time) ∧ w.cell? ⟨b, off + i * 9 + 2, none⟩ = some (.slice (Sr.gt l i).A (Sr.gt l i).labs.length (Sr.gt l i).cp) ∧ w.cell? ⟨b, off + i * 9 + 3, none⟩ = some (.string (Sr.gt l i).text) ∧ w.cell? ⟨b, off + i * 9 + 4, none⟩ = some (.int .i64 (Sr.gt l i).value) ∧ w.cell? ⟨b, off + i * 9 + 5, none⟩ = some (.bool (Sr.gt l i).null) ∧ w.cell? ⟨b, off + i * 9 + 6, none⟩ = some (.int .i64 (Sr.gt l i).maker) ∧ w.cell? ⟨b, off + i * 9 + 7, none⟩ = some (.int .i64 (Sr.gt l i).seq) ∧ w.cell? ⟨b, off + i * 9 + 8, none⟩ = some (.int .i64 (Sr.gt l i).place) := by
  obtain ⟨b', off', e, _, hc⟩ := reads_nine h (by omega)
  rw [hA] at e
  injection e with e
  injection e with e1 e2
  subst e1 e2
  exact hc i hi
theorem blk_nineR {w : World} {g : Nat} {t : TypeId} {x : Rw} (h : Blk w g t #[.int .i64 x.kind, .int .i64 x.time, .slice x.A x.labs.length x.cp, .string x.text, .int .i64 x.value, .bool x.null, .int .i64 x.maker, .int .i64 x.seq, .int .i64 x.place]) : w.cell? ⟨g, 0, none⟩ = some (.int .i64 x.kind) ∧ w.cell? ⟨g, 1, none⟩ = some (.int .i64 x.time) ∧ w.cell? ⟨g, 2, none⟩ = some (.slice x.A x.labs.length x.cp) ∧ w.cell? ⟨g, 3, none⟩ = some (.string x.text) ∧ w.cell? ⟨g, 4, none⟩ = some (.int .i64 x.value) ∧ w.cell? ⟨g, 5, none⟩ = some (.bool x.null) ∧ w.cell? ⟨g, 6, none⟩ = some (.int .i64 x.maker) ∧ w.cell? ⟨g, 7, none⟩ = some (.int .i64 x.seq) ∧ w.cell? ⟨g, 8, none⟩ = some (.int .i64 x.place) :=
  ⟨h.cell 0, h.cell 1, h.cell 2, h.cell 3, h.cell 4, h.cell 5, h.cell 6, h.cell 7, h.cell 8⟩

theorem part_row {H : Type} {enc : TypeId × Value → H} {W : World} {cs : List Value} {d : DataW H} (hl : cs.length = 9) (h : PartC enc Try.prog W 37 cs d) : ∃ x : Rw, x.ok W W.heap.size ∧ Sr.nine Rw.c x = cs := by
  match cs, hl with
  | [c0, c1, c2, c3, c4, c5, c6, c7, c8], _ =>
    obtain ⟨yr, hr⟩ := h.fieldAt Try.underlying37 0 0 6 28 (by kernel_rfl)
    obtain ⟨y6, h6⟩ := h.fieldAt Try.underlying37 1 6 1 3 (by kernel_rfl)
    obtain ⟨y7, h7⟩ := h.fieldAt Try.underlying37 2 7 1 3 (by kernel_rfl)
    obtain ⟨y8, h8⟩ := h.fieldAt Try.underlying37 3 8 1 3 (by kernel_rfl)
    obtain ⟨y0, h0⟩ := hr.fieldAt Try.underlying28 0 0 1 3 (by kernel_rfl)
    obtain ⟨y1, h1⟩ := hr.fieldAt Try.underlying28 1 1 1 3 (by kernel_rfl)
    obtain ⟨y2, h2⟩ := hr.fieldAt Try.underlying28 2 2 1 26 (by kernel_rfl)
    obtain ⟨y3, h3⟩ := hr.fieldAt Try.underlying28 3 3 1 9 (by kernel_rfl)
    obtain ⟨y4, h4⟩ := hr.fieldAt Try.underlying28 4 4 1 3 (by kernel_rfl)
    obtain ⟨y5, h5⟩ := hr.fieldAt Try.underlying28 5 5 1 4 (by kernel_rfl)
    have h0 : PartC enc Try.prog W 3 [c0] y0 := h0
    have h1 : PartC enc Try.prog W 3 [c1] y1 := h1
    have h2 : PartC enc Try.prog W 26 [c2] y2 := h2
    have h3 : PartC enc Try.prog W 9 [c3] y3 := h3
    have h4 : PartC enc Try.prog W 3 [c4] y4 := h4
    have h5 : PartC enc Try.prog W 4 [c5] y5 := h5
    have h6 : PartC enc Try.prog W 3 [c6] y6 := h6
    have h7 : PartC enc Try.prog W 3 [c7] y7 := h7
    have h8 : PartC enc Try.prog W 3 [c8] y8 := h8
    obtain ⟨kind, rfl, _⟩ := h0.one.int Try.underlying3
    obtain ⟨time, rfl, wt⟩ := h1.one.int Try.underlying3
    obtain ⟨A, c, labs, rfl, _, hln, hL, hF⟩ := part_labs h2.one
    obtain ⟨text, rfl, st⟩ := h3.one.str Try.underlying9
    obtain ⟨value, rfl, wv⟩ := h4.one.int Try.underlying3
    obtain ⟨null, rfl⟩ := h5.one.bool Try.underlying4
    obtain ⟨maker, rfl, _⟩ := h6.one.int Try.underlying3
    obtain ⟨seq, rfl, _⟩ := h7.one.int Try.underlying3
    obtain ⟨place, rfl, _⟩ := h8.one.int Try.underlying3
    exact ⟨⟨kind, time, A, c, labs, text, value, null, maker, seq, place⟩, ⟨hL, hF, hln, st, wf_i64 wt, wf_i64 wv⟩, rfl⟩
set_option maxRecDepth 100000 in
theorem arg_rows {H : Type} {enc : TypeId × Value → H} {W : World} {base : Nat} {v : Value} {d : DataW H} {p : List MemPlace} (h : Arg enc Try.prog W base 33 v d p) :
    ∃ (A : Option Addr) (c : Nat) (l : List Rw), v = .slice A l.length c ∧ l.length ≤ c ∧ l.length ≤ 4398046511104 ∧ Rows W W.heap.size A l := by
  obtain ⟨A0, n0, c0, rfl⟩ := okWide_slice Try.underlying33 h.ok
  obtain ⟨A, c, l, e, hl, _, hby, hr, hg⟩ := (h.part rfl).rows Try.underlying33 (size := 9) (by kernel_rfl) (by decide) (Sr.nine Rw.c) (fun x => x.ok W W.heap.size) (fun cs y h1 h2 => part_row h1 h2) (fun _ => rfl)
  have hbz : Try.prog.bytesOf 37 = 96 := by kernel_rfl
  rw [hbz] at hby
  exact ⟨A, c, l, e, hl, by omega, hr, hg⟩
end Go.Proofs.Ytennddlihcamnaa
