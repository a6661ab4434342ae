/- A call as an argument; a call with an error leaves the store (chapter 14). -/
import Derived.Test.YtlljpjehalodfaaProg
import Derived.Test.YtlljpjehalodfaaSaP
namespace Go.Proofs.Ytlljpjehalodfaa
open Go.RowKit
open Go.ChangeShapes Go.WideShapes
namespace St

set_option maxRecDepth 100000 in
theorem arg_call {H : Type} {enc : TypeId × Value → H} {W : World} {base : Nat} {v : Value} {d : DataW H} {p : List MemPlace} (h : Arg enc Try.prog W base 30 v d p) :
    ∃ a : Ac, v = .agg #[.int .i64 a.kind, .string a.key, .slice a.A a.d.length a.c, .int .i64 a.ver, .int .i64 a.at_, .int .i64 a.n, .int .i64 a.id] ∧ a.big = 0 ∧ a.ok W W.heap.size := by
  obtain ⟨cs, rfl, hsz⟩ := okWide_struct Try.underlying30 h.ok
  have h7 : cs.toList.length = 7 := by rw [Array.length_toList, hsz]; kernel_rfl
  have hr : PartC enc Try.prog W 30 cs.toList d := ⟨by obtain ⟨m, hm⟩ := h.trod; exact ⟨m, p, hm⟩, h.sized⟩
  have hcs : cs = ⟨cs.toList⟩ := rfl
  rw [hcs]
  generalize cs.toList = l at *
  match l, h7 with
  | [c0, c1, c2, c3, c4, c5, c6], _ =>
    obtain ⟨y0, h0⟩ := hr.fieldAt Try.underlying30 0 0 1 3 (by kernel_rfl)
    obtain ⟨y1, h1⟩ := hr.fieldAt Try.underlying30 1 1 1 9 (by kernel_rfl)
    obtain ⟨y2, h2⟩ := hr.fieldAt Try.underlying30 2 2 1 28 (by kernel_rfl)
    obtain ⟨y3, h3⟩ := hr.fieldAt Try.underlying30 3 3 1 3 (by kernel_rfl)
    obtain ⟨y4, h4⟩ := hr.fieldAt Try.underlying30 4 4 1 3 (by kernel_rfl)
    obtain ⟨y5, h5⟩ := hr.fieldAt Try.underlying30 5 5 1 3 (by kernel_rfl)
    obtain ⟨y6, h6⟩ := hr.fieldAt Try.underlying30 6 6 1 3 (by kernel_rfl)
    have h0 : PartC enc Try.prog W 3 [c0] y0 := h0
    have h1 : PartC enc Try.prog W 9 [c1] y1 := h1
    have h2 : PartC enc Try.prog W 28 [c2] y2 := h2
    have h3 : PartC enc Try.prog W 3 [c3] y3 := h3
    have h4 : PartC enc Try.prog W 3 [c4] y4 := h4
    have h5 : PartC enc Try.prog W 3 [c5] y5 := h5
    have h6 : PartC enc Try.prog W 3 [c6] y6 := h6
    obtain ⟨kind, rfl, _⟩ := h0.one.int Try.underlying3
    obtain ⟨key, rfl, sk⟩ := h1.one.str Try.underlying9
    obtain ⟨A, c, l, rfl, hlc, hcm, hb⟩ := part_bytes h2.one
    obtain ⟨ver, rfl, _⟩ := h3.one.int Try.underlying3
    obtain ⟨at_, rfl, wa⟩ := h4.one.int Try.underlying3
    obtain ⟨n, rfl, wn⟩ := h5.one.int Try.underlying3
    obtain ⟨id, rfl, wi⟩ := h6.one.int Try.underlying3
    exact ⟨⟨kind, key, A, c, l, ver, at_, n, id, 0⟩, rfl, rfl, ⟨sk, hlc, hcm, hb, wa, wn, wi⟩⟩
theorem step_err {s : PS} {c : PC} (h : (s.step c).2.err ≠ 0) : (s.step c).1 = s := by
  unfold PS.step at h ⊢
  split at h
  · rename_i hk
    rw [if_pos hk]
    unfold PS.put at h ⊢
    split at h
    · exact absurd rfl h
    · rename_i h0; rw [if_neg h0]
  rename_i hk; rw [if_neg hk]
  split at h
  · rename_i hk; rw [if_pos hk]
  rename_i hk; rw [if_neg hk]
  split at h
  · rename_i hk; rw [if_pos hk]
  rename_i hk; rw [if_neg hk]
  split at h
  · rename_i hk; rw [if_pos hk]
  rename_i hk; rw [if_neg hk]
  split at h
  · rename_i hk
    rw [if_pos hk]
    unfold PS.create at h ⊢
    split at h
    · exact absurd rfl h
    · rename_i h0; rw [if_neg h0]
  rename_i hk; rw [if_neg hk]
  split at h
  · rename_i hk
    rw [if_pos hk]
    unfold PS.drop at h ⊢
    split at h
    · rfl
    · exact absurd rfl h
  rename_i hk; rw [if_neg hk]
  split at h
  · rename_i hk
    rw [if_pos hk]
    unfold PS.upload at h ⊢
    split at h
    · rfl
    rename_i u hm
    (try dsimp only at h ⊢)
    split at h
    · rename_i h8
      rw [if_pos h8]
      unfold PS.part at h ⊢
      split at h
      · exact absurd rfl h
      · rename_i h0; rw [if_neg h0]
    rename_i h8; rw [if_neg h8]
    split at h
    · rename_i h9
      rw [if_pos h9]
      unfold PS.complete at h ⊢
      split at h
      · exact absurd rfl h
      · rename_i h0; rw [if_neg h0]
    · exact absurd rfl h
  rename_i hk; rw [if_neg hk]
end St
end Go.Proofs.Ytlljpjehalodfaa
