/- Records (chapter 9): how they lie in memory; the argument api.Batch opened. -/
import Derived.Test.YtennddlihcamnaaProg
import Derived.Test.YtennddlihcamnaaRecA
namespace Go.Proofs.Ytennddlihcamnaa
set_option linter.unusedVariables false
set_option linter.unusedSimpArgs false
open Go.RowKit
open Go.ChangeShapes Go.WideShapes

def recAt (l : List Rec) (i : Nat) : Rec := l.getD i ⟨0, 0, none, 0, [], ByteArray.empty, 0, false⟩
theorem recAt_eq {l : List Rec} {i : Nat} (h : i < l.length) : l[i] = recAt l i := by simp [recAt, List.getD, List.getElem?_eq_getElem h]
/-- A slice of records reads. -/
structure Recs (w : World) (B : Nat) (A : Option Addr) (l : List Rec) : Prop where
  cells : 0 < l.length → ∃ b off, A = some ⟨b, off, none⟩ ∧ b < B ∧ ∀ i, i < l.length → ∀ j u, (recAt l i).vals[j]? = some u → w.cell? ⟨b, off + (i * 6 + j), none⟩ = some u
  each : ∀ i, i < l.length → (recAt l i).ok w B
theorem Recs.below {w w' : World} {B : Nat} {A : Option Addr} {l : List Rec} (h : Recs w B A l) (hb : Below B w w') : Recs w' B A l := by
  refine ⟨fun hp => ?_, fun i hi => (h.each i hi).below hb⟩
  obtain ⟨b, off, e, hB, hc⟩ := h.cells hp
  exact ⟨b, off, e, hB, fun i hi j u hu => (hb.cell (p := ⟨b, _, none⟩) hB).trans (hc i hi j u hu)⟩
theorem Recs.more {w : World} {B B' : Nat} {A : Option Addr} {l : List Rec} (h : Recs w B A l) (hb : B ≤ B') : Recs w B' A l := by
  refine ⟨fun hp => ?_, fun i hi => (h.each i hi).more hb⟩
  obtain ⟨b, off, e, hB, hc⟩ := h.cells hp
  exact ⟨b, off, e, Nat.lt_of_lt_of_le hB hb, hc⟩
theorem Recs.cellAt {w : World} {B : Nat} {A : Option Addr} {l : List Rec} (h : Recs w B A l) (hp : 0 < l.length) : ∃ b off, A = some ⟨b, off, none⟩ ∧ b < B ∧ ∀ i, i < l.length →
    w.cell? ⟨b, off + i * 6, none⟩ = some (.int .i64 (recAt l i).kind) ∧ w.cell? ⟨b, off + i * 6 + 1, none⟩ = some (.int .i64 (recAt l i).time) ∧ w.cell? ⟨b, off + i * 6 + 2, none⟩ = some (.slice (recAt l i).A (recAt l i).labs.length (recAt l i).c) ∧
    w.cell? ⟨b, off + i * 6 + 3, none⟩ = some (.string (recAt l i).text) ∧ w.cell? ⟨b, off + i * 6 + 4, none⟩ = some (.int .i64 (recAt l i).value) ∧ w.cell? ⟨b, off + i * 6 + 5, none⟩ = some (.bool (recAt l i).null) := by
  obtain ⟨b, off, e, hB, hc⟩ := h.cells hp
  refine ⟨b, off, e, hB, fun i hi => ?_⟩
  have := hc i hi
  exact ⟨this 0 _ rfl, this 1 _ rfl, this 2 _ rfl, this 3 _ rfl, this 4 _ rfl, this 5 _ rfl⟩

theorem part_recs {H : Type} {enc : TypeId × Value → H} {W : World} {v : Value} {d : DataW H} (h : Part enc Try.prog W 22 v d) :
    ∃ (A : Option Addr) (c : Nat) (l : List Rec), v = .slice A l.length c ∧ l.length ≤ c ∧ l.length ≤ 1954687338211 ∧ Recs W W.heap.size A l := by
  obtain ⟨A, n, c, rfl, hn, hm, hby, hc⟩ := h.structs Try.underlying22 Try.underlying28 (by kernel_rfl) (by kernel_rfl) (by decide)
  have hbz : Try.prog.bytesOf 28 = 72 := by kernel_rfl
  rw [hbz] at hby
  rcases Nat.eq_zero_or_pos n with h0 | h0
  · exact ⟨A, c, [], by rw [h0]; rfl, Nat.zero_le _, Nat.zero_le _, ⟨fun h => absurd h (by simp), fun i hi => absurd hi (by simp)⟩⟩
  · obtain ⟨b, off, rfl, hb, hi⟩ := hc h0
    obtain ⟨l, hl, hp⟩ := choose_list (p := fun i (x : Rec) => (∀ j u, x.vals[j]? = some u → W.cell? ⟨b, off + (i * 6 + j), none⟩ = some u) ∧ x.ok W W.heap.size) n (fun i hin => by
      obtain ⟨u0, y0, c0, t0⟩ := hi i hin 0 _ rfl
      obtain ⟨u1, y1, c1, t1⟩ := hi i hin 1 _ rfl
      obtain ⟨u2, y2, c2, t2⟩ := hi i hin 2 _ rfl
      obtain ⟨u3, y3, c3, t3⟩ := hi i hin 3 _ rfl
      obtain ⟨u4, y4, c4, t4⟩ := hi i hin 4 _ rfl
      obtain ⟨u5, y5, c5, t5⟩ := hi i hin 5 _ rfl
      obtain ⟨x0, rfl, _⟩ := t0.int Try.underlying3
      obtain ⟨x1, rfl, w1⟩ := t1.int Try.underlying3
      obtain ⟨A2, k2, l2, rfl, _, n2, L2, F2⟩ := part_labs t2
      obtain ⟨x3, rfl, s3⟩ := t3.str Try.underlying9
      obtain ⟨x4, rfl, w4⟩ := t4.int Try.underlying3
      obtain ⟨x5, rfl⟩ := t5.bool Try.underlying4
      refine ⟨⟨x0, x1, A2, k2, l2, x3, x4, x5⟩, fun j u hu => ?_, ⟨L2, F2, n2, s3, wf_i64 w1, wf_i64 w4⟩⟩
      match j, hu with
      | 0, hu => obtain rfl := Option.some.inj hu; exact c0
      | 1, hu => obtain rfl := Option.some.inj hu; exact c1
      | 2, hu => obtain rfl := Option.some.inj hu; exact c2
      | 3, hu => obtain rfl := Option.some.inj hu; exact c3
      | 4, hu => obtain rfl := Option.some.inj hu; exact c4
      | 5, hu => obtain rfl := Option.some.inj hu; exact c5
      | j + 6, hu => cases hu)
    refine ⟨some ⟨b, off, none⟩, c, l, by rw [hl], by omega, by omega, ⟨fun _ => ⟨b, off, rfl, hb, fun i hi' => ?_⟩, fun i hi' => ?_⟩⟩
    · rw [← recAt_eq hi']; exact (hp i hi').1
    · rw [← recAt_eq hi']; exact (hp i hi').2

set_option maxRecDepth 100000 in
theorem arg_batch {H : Type} {enc : TypeId × Value → H} {W : World} {base : Nat} {v : Value} {d : DataW H} {p : List MemPlace} (h : Arg enc Try.prog W base 24 v d p) :
    ∃ (maker seq : Int) (A : Option Addr) (c : Nat) (l : List Rec), v = .agg #[.int .i64 maker, .int .i64 seq, .slice A l.length c] ∧ l.length ≤ c ∧ l.length ≤ 1954687338211 ∧ Recs W W.heap.size A l := by
  obtain ⟨v0, v1, v2, y0, y1, y2, n, hv, hd, -, t0, t1, t2⟩ := Go.Joins.open_agg3 Try.underlying24 (by kernel_rfl) (by kernel_rfl) h.ok h.trod
  have hw : ∀ (j : Nat) (t : TypeId) (y : DataW H), [3, 3, 22][j]? = some t → [y0.1, y1.1, y2.1][j]? = some y → ∀ k ∈ y.weights Try.prog t, k ≤ reachBytes := by
    intro j t y ht hy k hk
    refine h.sized k ?_
    rw [hd]
    simp only [DataW.weights, Try.underlying24]
    exact DataW.weights_mem_each (j := j) (by simpa using ht) hy k hk
  obtain ⟨x0, rfl, _⟩ := (Part.mk (enc := enc) ⟨n, _, t0⟩ (hw 0 _ _ rfl rfl)).int Try.underlying3
  obtain ⟨x1, rfl, _⟩ := (Part.mk (enc := enc) ⟨n, _, t1⟩ (hw 1 _ _ rfl rfl)).int Try.underlying3
  obtain ⟨A, c, l, rfl, h1, h2, h3⟩ := part_recs (Part.mk (enc := enc) ⟨n, _, t2⟩ (hw 2 _ _ rfl rfl))
  exact ⟨x0, x1, A, c, l, hv, h1, h2, h3⟩
end Go.Proofs.Ytennddlihcamnaa
