/- Labels in an argument (chapter 9). -/
import Derived.Test.YtennddlihcamnaaProg
import Derived.Test.YtennddlihcamnaaOpen
import Derived.Test.YtennddlihcamnaaPart
import Derived.Test.YtennddlihcamnaaLabTw
import Derived.Lib.SmallJoins
namespace Go.Proofs.Ytennddlihcamnaa
set_option linter.unusedVariables false
set_option linter.unusedSimpArgs false
open Go.RowKit
open Go.ChangeShapes Go.WideShapes

theorem part_labs {H : Type} {enc : TypeId × Value → H} {W : World} {v : Value} {d : DataW H} (h : Part enc Try.prog W 26 v d) :
    ∃ (A : Option Addr) (c : Nat) (l : List Lab), v = .slice A l.length c ∧ l.length ≤ c ∧ l.length ≤ 4398046511104 ∧ Labs W W.heap.size A l ∧ Fit l := by
  obtain ⟨A, n, c, rfl, hn, hm, hby, hc⟩ := h.structs Try.underlying26 Try.underlying39 (by kernel_rfl) (by kernel_rfl) (by decide)
  have hbz : Try.prog.bytesOf 39 = 32 := by kernel_rfl
  rw [hbz] at hby
  rcases Nat.eq_zero_or_pos n with h0 | h0
  · exact ⟨A, c, [], by rw [h0]; rfl, Nat.zero_le _, Nat.zero_le _, Labs.nil_, by simp [Fit]⟩
  · obtain ⟨b, off, rfl, hb, hi⟩ := hc h0
    obtain ⟨l, hl, hp⟩ := choose_list (p := fun i (x : Lab) => W.cell? ⟨b, off + i * 2, none⟩ = some (.string x.1) ∧ W.cell? ⟨b, off + i * 2 + 1, none⟩ = some (.string x.2) ∧ x.1.size ≤ 140737488351232 ∧ x.2.size ≤ 140737488351232) n (fun i hin => by
      obtain ⟨u0, y0, c0, t0⟩ := hi i hin 0 _ rfl
      obtain ⟨u1, y1, c1, t1⟩ := hi i hin 1 _ rfl
      obtain ⟨x0, rfl, s0⟩ := t0.str Try.underlying9
      obtain ⟨x1, rfl, s1⟩ := t1.str Try.underlying9
      exact ⟨(x0, x1), c0, c1, s0, s1⟩)
    refine ⟨some ⟨b, off, none⟩, c, l, by rw [hl], by omega, by omega, ⟨labCells_len l, fun _ => ⟨b, off, rfl, hb, fun j u hu => ?_⟩⟩, fun x hx => ?_⟩
    · have hj : j < l.length * 2 := by rw [← labCells_len]; exact (List.getElem?_eq_some_iff.1 hu).1
      have hji : j / 2 < l.length := by omega
      obtain ⟨g0, g1⟩ := labCells_get l (j / 2) hji
      obtain ⟨q0, q1, _⟩ := hp (j / 2) hji
      rcases Nat.mod_two_eq_zero_or_one j with hz | hz
      · have e : j = j / 2 * 2 := by omega
        rw [← e] at g0 q0
        rw [hu] at g0
        have g0 := Option.some.inj g0
        rw [g0]; exact q0
      · have e : j = j / 2 * 2 + 1 := by omega
        rw [← e] at g1
        rw [Nat.add_assoc, ← e] at q1
        rw [hu] at g1
        have g1 := Option.some.inj g1
        rw [g1]; exact q1
    · obtain ⟨i, hi', rfl⟩ := List.getElem_of_mem hx
      exact (hp i hi').2.2

/-! ### records -/
/-- A record, and where its labels lie. -/
structure Rec where
  kind : Int
  time : Int
  A : Option Addr
  c : Nat
  labs : List Lab
  text : ByteArray
  value : Int
  null : Bool
def Rec.vals (r : Rec) : List Value := [.int .i64 r.kind, .int .i64 r.time, .slice r.A r.labs.length r.c, .string r.text, .int .i64 r.value, .bool r.null]
def Rec.agg (r : Rec) : Value := .agg #[.int .i64 r.kind, .int .i64 r.time, .slice r.A r.labs.length r.c, .string r.text, .int .i64 r.value, .bool r.null]
/-- The record's labels lie in memory, all that it holds can be counted, its whole numbers are of their kind. -/
structure Rec.ok (w : World) (B : Nat) (r : Rec) : Prop where
  labs : Labs w B r.A r.labs
  fit : Fit r.labs
  len : r.labs.length ≤ 4398046511104
  text : r.text.size ≤ 140737488351232
  time : -9223372036854775808 ≤ r.time ∧ r.time ≤ 9223372036854775807
  value : -9223372036854775808 ≤ r.value ∧ r.value ≤ 9223372036854775807
theorem Rec.ok.below {w w' : World} {B : Nat} {r : Rec} (h : r.ok w B) (hb : Below B w w') : r.ok w' B := ⟨h.labs.below hb, h.fit, h.len, h.text, h.time, h.value⟩
theorem Rec.ok.more {w : World} {B B' : Nat} {r : Rec} (h : r.ok w B) (hb : B ≤ B') : r.ok w B' := ⟨h.labs.more hb, h.fit, h.len, h.text, h.time, h.value⟩
end Go.Proofs.Ytennddlihcamnaa
