/- The argument []Act of BayBoxes, opened. -/
import Derived.Test.YtepfggfideianaaProg
import Derived.Test.YtepfggfideianaaOpen
namespace Go.Proofs.Ytepfggfideianaa
open Go.RowKit
open Go.ChangeShapes Go.WideShapes

/-- A slice of pairs of ints reads. -/
def Pairs (w : World) (B : Nat) (A : Option Addr) (l : List (Int × Int)) : Prop :=
  0 < l.length → ∃ b off, A = some ⟨b, off, none⟩ ∧ b < B ∧ ∀ i (hi : i < l.length), w.cell? ⟨b, off + i * 2, none⟩ = some (.int .i64 l[i].1) ∧ w.cell? ⟨b, off + i * 2 + 1, none⟩ = some (.int .i64 l[i].2)
theorem Pairs.below {w w' : World} {B : Nat} {A : Option Addr} {l : List (Int × Int)} (h : Pairs w B A l) (hb : Below B w w') : Pairs w' B A l := fun hp => by
  obtain ⟨b, off, e, hB, hc⟩ := h hp
  exact ⟨b, off, e, hB, fun i hi => ⟨(hb.cell (p := ⟨b, _, none⟩) hB).trans (hc i hi).1, (hb.cell (p := ⟨b, _, none⟩) hB).trans (hc i hi).2⟩⟩

theorem arg_acts {H : Type} {enc : TypeId × Value → H} {W : World} {base : Nat} {v : Value} {d : DataW H} {p : List MemPlace} (h : Arg enc Try.prog W base 30 v d p) :
    ∃ (A : Option Addr) (c : Nat) (l : List (Int × Int)), v = .slice A l.length c ∧ l.length ≤ c ∧ c ≤ maxLen ∧ Pairs W W.heap.size A l ∧ ∀ x ∈ l, x.2 ≤ 9223372036854775807 := by
  obtain ⟨A, n, c, D, rfl, hD, hn, hm, _, hc, _⟩ := h.structs Try.underlying30 Try.underlying39 (by kernel_rfl) (by kernel_rfl) (by decide)
  rcases Nat.eq_zero_or_pos n with h0 | h0
  · exact ⟨A, c, [], by rw [h0]; rfl, Nat.zero_le _, hm, fun h => absurd h (by simp), by simp⟩
  · obtain ⟨b, off, rfl, hb, hi⟩ := hc h0
    obtain ⟨l, hl, hp⟩ := choose_list (p := fun i (x : Int × Int) => W.cell? ⟨b, off + i * 2, none⟩ = some (.int .i64 x.1) ∧ W.cell? ⟨b, off + i * 2 + 1, none⟩ = some (.int .i64 x.2) ∧ x.2 ≤ 9223372036854775807) n (fun i hin => by
      obtain ⟨hlen, m, hf⟩ := hi i (by omega)
      obtain ⟨u0, y0, c0, e0, t0⟩ := hf 0 _ rfl
      obtain ⟨u1, y1, c1, e1, t1⟩ := hf 1 _ rfl
      obtain ⟨x0, r0, _, _⟩ := DataW.trod_int Try.underlying3 t0
      obtain ⟨x1, r1, _, w1⟩ := DataW.trod_int Try.underlying3 t1
      simp only [List.cons.injEq, and_true] at r0 r1
      subst r0 r1
      exact ⟨(x0, x1), c0, c1, (wf_i64 w1).2⟩)
    refine ⟨some ⟨b, off, none⟩, c, l, by rw [hl], by omega, hm, fun _ => ⟨b, off, rfl, hb, fun i hi' => ⟨(hp i hi').1, (hp i hi').2.1⟩⟩, fun x hx => ?_⟩
    obtain ⟨i, hi', rfl⟩ := List.getElem_of_mem hx
    exact (hp i hi').2.2
end Go.Proofs.Ytepfggfideianaa
