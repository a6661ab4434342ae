/- A manifest, an edit, an owner, a text as arguments (chapter 13). -/
import Derived.Test.YtjbmlhipjceeeaaGreatProg
import Derived.Test.YtjbmlhipjceeeaaGreatMfK
import Derived.Test.YtjbmlhipjceeeaaGreatPartC
namespace Go.Proofs.YtjbmlhipjceeeaaGreat.Mf
set_option linter.unusedVariables false
set_option linter.unusedSimpArgs false
open Go.RowKit Go.Proofs.YtjbmlhipjceeeaaGreat
open Go.ChangeShapes Go.WideShapes

theorem wf_u32 {x : Int} (h : (Lit.int .u32 x).wf = true) : 0 ≤ x ∧ x ≤ 4294967295 := by
  have h2 : IntKind.u32.min = 0 := rfl
  have h3 : IntKind.u32.max = 4294967295 := rfl
  simp only [Lit.wf, Bool.and_eq_true, decide_eq_true_eq, h2, h3] at h
  exact h
section
variable {H : Type} {enc : TypeId × Value → H} {W : World} {v : Value} {d : DataW H}
theorem part_ens (h : Part enc Tryz.prog W 22 v d) :
    ∃ (A : Option Addr) (c : Nat) (l : List En), v = .slice A l.length c ∧ l.length ≤ c ∧ l.length ≤ 17592186044416 ∧ Reads W W.heap.size 9 A l.length (l.flatMap En.cs) ∧ ∀ x ∈ l, x.Ok := by
  obtain ⟨A, c, l, e, hl, _, hby, hr, hg⟩ := h.flat Tryz.underlying22 Tryz.underlying42 (by kernel_rfl) (by kernel_rfl) (by decide) En.cs (fun _ => rfl) (fun x => x.Ok) (fun us hu => by
    obtain ⟨y0, t0⟩ := hu 0 _ rfl
    obtain ⟨y1, t1⟩ := hu 1 _ rfl
    obtain ⟨y2, t2⟩ := hu 2 _ rfl
    obtain ⟨y3, t3⟩ := hu 3 _ rfl
    obtain ⟨y4, t4⟩ := hu 4 _ rfl
    obtain ⟨y5, t5⟩ := hu 5 _ rfl
    obtain ⟨y6, t6⟩ := hu 6 _ rfl
    obtain ⟨y7, t7⟩ := hu 7 _ rfl
    obtain ⟨y8, t8⟩ := hu 8 _ rfl
    obtain ⟨x0, e0, s0⟩ := t0.str Tryz.underlying9
    obtain ⟨x1, e1, _⟩ := t1.int Tryz.underlying3
    obtain ⟨x2, e2, s2⟩ := t2.str Tryz.underlying9
    obtain ⟨x3, e3, _⟩ := t3.int Tryz.underlying3
    obtain ⟨x4, e4, _⟩ := t4.int Tryz.underlying3
    obtain ⟨x5, e5, _⟩ := t5.int Tryz.underlying3
    obtain ⟨x6, e6, _⟩ := t6.int Tryz.underlying3
    obtain ⟨x7, e7, s7⟩ := t7.int Tryz.underlying40
    obtain ⟨x8, e8, _⟩ := t8.int Tryz.underlying3
    refine ⟨⟨x0, x1, x2, x3, x4, x5, x6, x7, x8⟩, ⟨s0, s2, wf_u32 s7⟩, fun j hj => ?_⟩
    have hj9 : j < 9 := hj
    have : j = 0 ∨ j = 1 ∨ j = 2 ∨ j = 3 ∨ j = 4 ∨ j = 5 ∨ j = 6 ∨ j = 7 ∨ j = 8 := by omega
    rcases this with rfl | rfl | rfl | rfl | rfl | rfl | rfl | rfl | rfl
    · rw [e0]; rfl
    · rw [e1]; rfl
    · rw [e2]; rfl
    · rw [e3]; rfl
    · rw [e4]; rfl
    · rw [e5]; rfl
    · rw [e6]; rfl
    · rw [e7]; rfl
    · rw [e8]; rfl)
  have hbz : Tryz.prog.bytesOf 42 = 88 := by kernel_rfl
  rw [hbz] at hby
  exact ⟨A, c, l, e, hl, by omega, hr, hg⟩
theorem part_mks (h : Part enc Tryz.prog W 23 v d) :
    ∃ (A : Option Addr) (c : Nat) (l : List Mk), v = .slice A l.length c ∧ l.length ≤ c ∧ l.length ≤ 17592186044416 ∧ Reads W W.heap.size 2 A l.length (l.flatMap Mk.cs) := by
  obtain ⟨A, c, l, e, hl, _, hby, hr, hg⟩ := h.flat Tryz.underlying23 Tryz.underlying44 (by kernel_rfl) (by kernel_rfl) (by decide) Mk.cs (fun _ => rfl) (fun x => True) (fun us hu => by
    obtain ⟨y0, t0⟩ := hu 0 _ rfl
    obtain ⟨y1, t1⟩ := hu 1 _ rfl
    obtain ⟨x0, e0, _⟩ := t0.int Tryz.underlying3
    obtain ⟨x1, e1, _⟩ := t1.int Tryz.underlying3
    refine ⟨⟨x0, x1⟩, trivial, fun j hj => ?_⟩
    have hj9 : j < 2 := hj
    have : j = 0 ∨ j = 1 := by omega
    rcases this with rfl | rfl
    · rw [e0]; rfl
    · rw [e1]; rfl)
  have hbz : Tryz.prog.bytesOf 44 = 16 := by kernel_rfl
  rw [hbz] at hby
  exact ⟨A, c, l, e, hl, by omega, hr⟩
theorem part_ows (h : Part enc Tryz.prog W 24 v d) :
    ∃ (A : Option Addr) (c : Nat) (l : List Ow), v = .slice A l.length c ∧ l.length ≤ c ∧ l.length ≤ 17592186044416 ∧ Reads W W.heap.size 3 A l.length (l.flatMap Ow.cs) := by
  obtain ⟨A, c, l, e, hl, _, hby, hr, hg⟩ := h.flat Tryz.underlying24 Tryz.underlying29 (by kernel_rfl) (by kernel_rfl) (by decide) Ow.cs (fun _ => rfl) (fun x => True) (fun us hu => by
    obtain ⟨y0, t0⟩ := hu 0 _ rfl
    obtain ⟨y1, t1⟩ := hu 1 _ rfl
    obtain ⟨y2, t2⟩ := hu 2 _ rfl
    obtain ⟨x0, e0, _⟩ := t0.int Tryz.underlying3
    obtain ⟨x1, e1, _⟩ := t1.int Tryz.underlying3
    obtain ⟨x2, e2, _⟩ := t2.int Tryz.underlying3
    refine ⟨⟨x0, x1, x2⟩, trivial, fun j hj => ?_⟩
    have hj9 : j < 3 := hj
    have : j = 0 ∨ j = 1 ∨ j = 2 := by omega
    rcases this with rfl | rfl | rfl
    · rw [e0]; rfl
    · rw [e1]; rfl
    · rw [e2]; rfl)
  have hbz : Tryz.prog.bytesOf 29 = 24 := by kernel_rfl
  rw [hbz] at hby
  exact ⟨A, c, l, e, hl, by omega, hr⟩
theorem flat_str : ∀ l : List ByteArray, (l.flatMap fun s => [Value.string s]) = l.map Value.string
  | [] => rfl
  | a :: r => by rw [List.flatMap_cons, List.map_cons, flat_str r]; rfl
theorem part_strs (h : Part enc Tryz.prog W 27 v d) :
    ∃ (A : Option Addr) (c : Nat) (l : List ByteArray), v = .slice A l.length c ∧ l.length ≤ c ∧ l.length ≤ 17592186044416 ∧ Reads W W.heap.size 1 A l.length (l.map Value.string) ∧ ∀ k ∈ l, k.size ≤ 140737488351232 := by
  obtain ⟨A, c, l, e, hl, _, hby, hr, hg⟩ := h.rows Tryz.underlying27 (size := 1) (by kernel_rfl) (by decide) (fun s : ByteArray => [Value.string s]) (fun s => s.size ≤ 140737488351232) (fun cs y hcs hp => by
    match cs, hcs with
    | [c0], _ =>
      obtain ⟨s, rfl, hs⟩ := hp.one.str Tryz.underlying9
      exact ⟨s, hs, rfl⟩) (fun _ => rfl)
  have hbz : Tryz.prog.bytesOf 9 = 16 := by kernel_rfl
  rw [hbz] at hby
  rw [flat_str] at hr
  exact ⟨A, c, l, e, hl, by omega, hr, hg⟩
end
set_option maxRecDepth 100000 in
theorem arg_man {H : Type} {enc : TypeId × Value → H} {W : World} {base : Nat} {v : Value} {d : DataW H} {p : List MemPlace} (h : Arg enc Tryz.prog W base 26 v d p) : ∃ m q, v = mdV m q ∧ Man W W.heap.size m q := by
  obtain ⟨cs, rfl, hsz⟩ := okWide_struct Tryz.underlying26 h.ok
  have h7 : cs.toList.length = 6 := by rw [Array.length_toList, hsz]; kernel_rfl
  have hr : PartC enc Tryz.prog W 26 cs.toList d := ⟨by obtain ⟨m, hm⟩ := h.trod; exact ⟨m, p, hm⟩, h.sized⟩
  have hcs : cs = ⟨cs.toList⟩ := rfl
  rw [hcs]
  generalize cs.toList = l at *
  match l, h7 with
  | [c0, c1, c2, c3, c4, c5], _ =>
    obtain ⟨y0, h0⟩ := hr.fieldAt Tryz.underlying26 0 0 1 3 (by kernel_rfl)
    obtain ⟨y1, h1⟩ := hr.fieldAt Tryz.underlying26 1 1 1 3 (by kernel_rfl)
    obtain ⟨y2, h2⟩ := hr.fieldAt Tryz.underlying26 2 2 1 3 (by kernel_rfl)
    obtain ⟨y3, h3⟩ := hr.fieldAt Tryz.underlying26 3 3 1 22 (by kernel_rfl)
    obtain ⟨y4, h4⟩ := hr.fieldAt Tryz.underlying26 4 4 1 23 (by kernel_rfl)
    obtain ⟨y5, h5⟩ := hr.fieldAt Tryz.underlying26 5 5 1 24 (by kernel_rfl)
    have h0 : PartC enc Tryz.prog W 3 [c0] y0 := h0
    have h1 : PartC enc Tryz.prog W 3 [c1] y1 := h1
    have h2 : PartC enc Tryz.prog W 3 [c2] y2 := h2
    have h3 : PartC enc Tryz.prog W 22 [c3] y3 := h3
    have h4 : PartC enc Tryz.prog W 23 [c4] y4 := h4
    have h5 : PartC enc Tryz.prog W 24 [c5] y5 := h5
    obtain ⟨gen, rfl, _⟩ := h0.one.int Tryz.underlying3
    obtain ⟨cut, rfl, _⟩ := h1.one.int Tryz.underlying3
    obtain ⟨fence, rfl, _⟩ := h2.one.int Tryz.underlying3
    obtain ⟨AE, cE, E, rfl, k1, k2, k3, k4⟩ := part_ens h3.one
    obtain ⟨AM, cM, M, rfl, k5, k6, k7⟩ := part_mks h4.one
    obtain ⟨AO, cO, O, rfl, k8, k9, k10⟩ := part_ows h5.one
    exact ⟨⟨gen, cut, fence, E, M, O⟩, ⟨AE, cE, AM, cM, AO, cO⟩, rfl, ⟨k3, k7, k10, k2, k6, k9, k1, k5, k8, k4⟩⟩
set_option maxRecDepth 100000 in
theorem arg_own {H : Type} {enc : TypeId × Value → H} {W : World} {v : Value} {d : DataW H} {cs : List Value} (hr : PartC enc Tryz.prog W 29 cs d) : ∃ y : Ow, cs = y.cs := by
  have h7 : cs.length = 3 := (hr.len Tryz.underlying29).trans (by kernel_rfl)
  match cs, h7 with
  | [c0, c1, c2], _ =>
    obtain ⟨y0, h0⟩ := hr.fieldAt Tryz.underlying29 0 0 1 3 (by kernel_rfl)
    obtain ⟨y1, h1⟩ := hr.fieldAt Tryz.underlying29 1 1 1 3 (by kernel_rfl)
    obtain ⟨y2, h2⟩ := hr.fieldAt Tryz.underlying29 2 2 1 3 (by kernel_rfl)
    have h0 : PartC enc Tryz.prog W 3 [c0] y0 := h0
    have h1 : PartC enc Tryz.prog W 3 [c1] y1 := h1
    have h2 : PartC enc Tryz.prog W 3 [c2] y2 := h2
    obtain ⟨a, rfl, _⟩ := h0.one.int Tryz.underlying3
    obtain ⟨b, rfl, _⟩ := h1.one.int Tryz.underlying3
    obtain ⟨c, rfl, _⟩ := h2.one.int Tryz.underlying3
    exact ⟨⟨a, b, c⟩, rfl⟩
set_option maxRecDepth 100000 in
theorem arg_ow {H : Type} {enc : TypeId × Value → H} {W : World} {base : Nat} {v : Value} {d : DataW H} {p : List MemPlace} (h : Arg enc Tryz.prog W base 29 v d p) : ∃ y, v = owV y := by
  obtain ⟨cs, rfl, hsz⟩ := okWide_struct Tryz.underlying29 h.ok
  have hr : PartC enc Tryz.prog W 29 cs.toList d := ⟨by obtain ⟨m, hm⟩ := h.trod; exact ⟨m, p, hm⟩, h.sized⟩
  obtain ⟨y, hy⟩ := arg_own (v := .agg cs) hr
  refine ⟨y, ?_⟩
  have hcs : cs = ⟨cs.toList⟩ := rfl
  rw [hcs, hy]
  rfl
set_option maxRecDepth 100000 in
theorem part_edit {H : Type} {enc : TypeId × Value → H} {W : World} {d : DataW H} {cs : List Value} (hr : PartC enc Tryz.prog W 31 cs d) : ∃ x q, cs = [.slice q.AA x.add.length q.cA, .slice q.AD x.drop.length q.cD, .slice q.AM x.marks.length q.cM, .int .i64 x.cut, .int .i64 x.fence, .int .i64 x.by_.agent, .int .i64 x.by_.life, .int .i64 x.by_.count] ∧ Edi W W.heap.size x q := by
  have h7 : cs.length = 8 := (hr.len Tryz.underlying31).trans (by kernel_rfl)
  match cs, h7 with
  | [c0, c1, c2, c3, c4, c5, c6, c7], _ =>
    obtain ⟨y0, h0⟩ := hr.fieldAt Tryz.underlying31 0 0 1 22 (by kernel_rfl)
    obtain ⟨y1, h1⟩ := hr.fieldAt Tryz.underlying31 1 1 1 27 (by kernel_rfl)
    obtain ⟨y2, h2⟩ := hr.fieldAt Tryz.underlying31 2 2 1 23 (by kernel_rfl)
    obtain ⟨y3, h3⟩ := hr.fieldAt Tryz.underlying31 3 3 1 3 (by kernel_rfl)
    obtain ⟨y4, h4⟩ := hr.fieldAt Tryz.underlying31 4 4 1 3 (by kernel_rfl)
    obtain ⟨y5, h5⟩ := hr.fieldAt Tryz.underlying31 5 5 3 29 (by kernel_rfl)
    have h0 : PartC enc Tryz.prog W 22 [c0] y0 := h0
    have h1 : PartC enc Tryz.prog W 27 [c1] y1 := h1
    have h2 : PartC enc Tryz.prog W 23 [c2] y2 := h2
    have h3 : PartC enc Tryz.prog W 3 [c3] y3 := h3
    have h4 : PartC enc Tryz.prog W 3 [c4] y4 := h4
    have h5 : PartC enc Tryz.prog W 29 [c5, c6, c7] y5 := h5
    obtain ⟨AE, cE, E, rfl, k1, k2, k3, k4⟩ := part_ens h0.one
    obtain ⟨AD, cD, D, rfl, k5, k6, k7, k8⟩ := part_strs h1.one
    obtain ⟨AM, cM, M, rfl, k9, k10, k11⟩ := part_mks h2.one
    obtain ⟨cut, rfl, _⟩ := h3.one.int Tryz.underlying3
    obtain ⟨fence, rfl, _⟩ := h4.one.int Tryz.underlying3
    obtain ⟨y, hy⟩ := arg_own (v := .bool true) h5
    injection hy with e1 hy
    injection hy with e2 hy
    injection hy with e3 _
    subst e1 e2 e3
    exact ⟨⟨E, D, M, cut, fence, y⟩, ⟨AE, cE, AD, cD, AM, cM⟩, rfl, ⟨k3, k7, k11, k2, k6, k10, k1, k5, k9, k4, k8⟩⟩
set_option maxRecDepth 100000 in
theorem arg_edit {H : Type} {enc : TypeId × Value → H} {W : World} {base : Nat} {v : Value} {d : DataW H} {p : List MemPlace} (h : Arg enc Tryz.prog W base 31 v d p) : ∃ x q, v = edV x q ∧ Edi W W.heap.size x q := by
  obtain ⟨cs, rfl, hsz⟩ := okWide_struct Tryz.underlying31 h.ok
  have hr : PartC enc Tryz.prog W 31 cs.toList d := ⟨by obtain ⟨m, hm⟩ := h.trod; exact ⟨m, p, hm⟩, h.sized⟩
  obtain ⟨x, q, hy, he⟩ := part_edit hr
  refine ⟨x, q, ?_, he⟩
  have hcs : cs = ⟨cs.toList⟩ := rfl
  rw [hcs, hy]
/-- The library's variable holds a number in every world that fits the program. -/
theorem var0 {w : World} (h : w.ShapedOpen Tryz.prog) : Sh w := Go.Proofs.cell_of_shapedOpen_int (zero := #[.int .i64 0]) (t := 3) h (of_decide_eq_true (by kernel_rfl)) (by kernel_rfl) rfl (by kernel_rfl) (by kernel_rfl) Tryz.underlying3
end Go.Proofs.YtjbmlhipjceeeaaGreat.Mf
