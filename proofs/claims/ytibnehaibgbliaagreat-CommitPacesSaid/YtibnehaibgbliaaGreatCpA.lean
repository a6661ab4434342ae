/- CommitPaces: the edit that comes in (entries, texts, marks in rows). -/
import Derived.Test.YtibnehaibgbliaaGreatProg
import Derived.Test.YtibnehaibgbliaaGreatPartC
import Derived.Test.YtibnehaibgbliaaGreatOpen
namespace Go.Proofs.YtibnehaibgbliaaGreat.Cp
set_option linter.unusedVariables false
set_option linter.unusedSimpArgs false
open Go.RowKit Go.Proofs.YtibnehaibgbliaaGreat
open Go.ChangeShapes Go.WideShapes

def gt {α : Type} [Inhabited α] (l : List α) (i : Nat) : α := l.getD i default
theorem gt_eq {α : Type} [Inhabited α] {l : List α} {i : Nat} (h : i < l.length) : l[i] = gt l i := by simp [gt, List.getD, List.getElem?_eq_getElem h]
theorem gt_mem {α : Type} [Inhabited α] {l : List α} {i : Nat} (h : i < l.length) : gt l i ∈ l := by rw [← gt_eq h]; exact List.getElem_mem _
theorem gt_at {α : Type} [Inhabited α] {l : List α} {i : Nat} (h : i < l.length) : l[i]? = some (gt l i) := by rw [List.getElem?_eq_getElem h, gt_eq h]
theorem mem_gt {α : Type} [Inhabited α] {l : List α} {x : α} (h : x ∈ l) : ∃ i, i < l.length ∧ gt l i = x := by
  obtain ⟨i, hi, rfl⟩ := List.getElem_of_mem h
  exact ⟨i, hi, (gt_eq hi).symm⟩
theorem take_gt {α : Type} [Inhabited α] {l : List α} {k : Nat} (hk : k < l.length) : l.take (k + 1) = l.take k ++ [gt l k] := by rw [List.take_succ_eq_append_getElem hk, gt_eq hk]
theorem gt_take {α : Type} [Inhabited α] {l : List α} {i k : Nat} (hi : i < k) (hk : k ≤ l.length) : gt (l.take k) i = gt l i := by
  rw [← gt_eq (show i < (l.take k).length by rw [List.length_take]; omega), ← gt_eq (show i < l.length by omega), List.getElem_take]

/-- An entry, a mark, an owner. -/
structure En where
  key : ByteArray
  window : Int
  part : ByteArray
  first : Int
  last : Int
  rows : Int
  size : Int
  sum : Int
  born : Int
deriving Inhabited, DecidableEq
structure Mk where
  maker : Int
  seq : Int
deriving Inhabited, DecidableEq
structure Ow where
  agent : Int
  life : Int
  count : Int
deriving Inhabited, DecidableEq
def En.cs (x : En) : List Value := [.string x.key, .int .i64 x.window, .string x.part, .int .i64 x.first, .int .i64 x.last, .int .i64 x.rows, .int .i64 x.size, .int .u32 x.sum, .int .i64 x.born]
def Mk.cs (x : Mk) : List Value := [.int .i64 x.maker, .int .i64 x.seq]
def Ow.cs (x : Ow) : List Value := [.int .i64 x.agent, .int .i64 x.life, .int .i64 x.count]
/-- What can lie in memory. -/
structure En.Ok (x : En) : Prop where
  key : x.key.size ≤ 140737488351232
  part : x.part.size ≤ 140737488351232
  sum : 0 ≤ x.sum ∧ x.sum ≤ 4294967295
theorem ecs_len (x : En) : x.cs.length = 9 := rfl
theorem mcs_len (x : Mk) : x.cs.length = 2 := rfl
theorem ocs_len (x : Ow) : x.cs.length = 3 := rfl
theorem ecs_one (l : List En) : ∀ u ∈ l.flatMap En.cs, u.oneCell' = true := by
  intro u hu
  obtain ⟨x, _, hx⟩ := List.mem_flatMap.1 hu
  simp [En.cs] at hx
  rcases hx with rfl | rfl | rfl | rfl | rfl | rfl | rfl | rfl | rfl <;> rfl
theorem mcs_one (l : List Mk) : ∀ u ∈ l.flatMap Mk.cs, u.oneCell' = true := by
  intro u hu
  obtain ⟨x, _, hx⟩ := List.mem_flatMap.1 hu
  simp [Mk.cs] at hx
  rcases hx with rfl | rfl <;> rfl
theorem ocs_one (l : List Ow) : ∀ u ∈ l.flatMap Ow.cs, u.oneCell' = true := by
  intro u hu
  obtain ⟨x, _, hx⟩ := List.mem_flatMap.1 hu
  simp [Ow.cs] at hx
  rcases hx with rfl | rfl | rfl <;> rfl

/-- Things that lie in a row, read cell by cell. -/
theorem row_at {α : Type} [Inhabited α] {cs : α → List Value} {k : Nat} (hcs : ∀ x, (cs x).length = k) {w : World} {B : Nat} {A : Option Addr} {l : List α} (h : Reads w B k A l.length (l.flatMap cs)) (hp : 0 < l.length) :
    ∃ b off, A = some ⟨b, off, none⟩ ∧ b < B ∧ ∀ i, i < l.length → ∀ j v, (cs (gt l i))[j]? = some v → w.cell? ⟨b, off + i * k + j, none⟩ = some v := by
  obtain ⟨b, off, e, hb, hc⟩ := h.2 hp
  refine ⟨b, off, e, hb, fun i hi j v hv => ?_⟩
  have hj : j < k := by rw [← hcs (gt l i)]; exact (List.getElem?_eq_some_iff.1 hv).1
  rw [Nat.add_assoc]
  refine hc _ _ ?_
  rw [flatMap_get hcs l i hi j hj, gt_eq hi, hv]
/-- An edit, and where it lies. -/
structure Ed where
  add : List En
  drop : List ByteArray
  marks : List Mk
  cut : Int
  fence : Int
  by_ : Ow
deriving Inhabited
structure Pd where
  AA : Option Addr
  cA : Nat
  AD : Option Addr
  cD : Nat
  AM : Option Addr
  cM : Nat
abbrev edV (d : Ed) (p : Pd) : Value := .agg #[.slice p.AA d.add.length p.cA, .slice p.AD d.drop.length p.cD, .slice p.AM d.marks.length p.cM, .int .i64 d.cut, .int .i64 d.fence, .int .i64 d.by_.agent, .int .i64 d.by_.life, .int .i64 d.by_.count]
structure Edi (w : World) (B : Nat) (d : Ed) (p : Pd) : Prop where
  ra : Reads w B 9 p.AA d.add.length (d.add.flatMap En.cs)
  rd : Reads w B 1 p.AD d.drop.length (d.drop.map Value.string)
  rm : Reads w B 2 p.AM d.marks.length (d.marks.flatMap Mk.cs)
  la : d.add.length ≤ 17592186044416
  ld : d.drop.length ≤ 17592186044416
  lm : d.marks.length ≤ 17592186044416
  ca : d.add.length ≤ p.cA
  cd : d.drop.length ≤ p.cD
  cm : d.marks.length ≤ p.cM
  ok : ∀ x ∈ d.add, x.Ok
  okd : ∀ k ∈ d.drop, k.size ≤ 140737488351232

theorem wf_u32 {x : Int} (h : (Lit.int .u32 x).wf = true) : 0 ≤ x ∧ x ≤ 4294967295 := by
  have h2 : IntKind.u32.min = 0 := rfl
  have h3 : IntKind.u32.max = 4294967295 := rfl
  simp only [Lit.wf, Bool.and_eq_true, decide_eq_true_eq, h2, h3] at h
  exact h
section
variable {H : Type} {enc : TypeId × Value → H} {W : World} {v : Value} {d : DataW H}
theorem part_ens (h : Part enc Tryz.prog W 22 v d) :
    ∃ (A : Option Addr) (c : Nat) (l : List En), v = .slice A l.length c ∧ l.length ≤ c ∧ l.length ≤ 17592186044416 ∧ Reads W W.heap.size 9 A l.length (l.flatMap En.cs) ∧ ∀ x ∈ l, x.Ok := by
  obtain ⟨A, c, l, e, hl, _, hby, hr, hg⟩ := h.flat Tryz.underlying22 Tryz.underlying85 (by kernel_rfl) (by kernel_rfl) (by decide) En.cs (fun _ => rfl) (fun x => x.Ok) (fun us hu => by
    obtain ⟨y0, t0⟩ := hu 0 _ rfl
    obtain ⟨y1, t1⟩ := hu 1 _ rfl
    obtain ⟨y2, t2⟩ := hu 2 _ rfl
    obtain ⟨y3, t3⟩ := hu 3 _ rfl
    obtain ⟨y4, t4⟩ := hu 4 _ rfl
    obtain ⟨y5, t5⟩ := hu 5 _ rfl
    obtain ⟨y6, t6⟩ := hu 6 _ rfl
    obtain ⟨y7, t7⟩ := hu 7 _ rfl
    obtain ⟨y8, t8⟩ := hu 8 _ rfl
    obtain ⟨x0, e0, s0⟩ := t0.str Tryz.underlying9
    obtain ⟨x1, e1, _⟩ := t1.int Tryz.underlying3
    obtain ⟨x2, e2, s2⟩ := t2.str Tryz.underlying9
    obtain ⟨x3, e3, _⟩ := t3.int Tryz.underlying3
    obtain ⟨x4, e4, _⟩ := t4.int Tryz.underlying3
    obtain ⟨x5, e5, _⟩ := t5.int Tryz.underlying3
    obtain ⟨x6, e6, _⟩ := t6.int Tryz.underlying3
    obtain ⟨x7, e7, s7⟩ := t7.int Tryz.underlying83
    obtain ⟨x8, e8, _⟩ := t8.int Tryz.underlying3
    refine ⟨⟨x0, x1, x2, x3, x4, x5, x6, x7, x8⟩, ⟨s0, s2, wf_u32 s7⟩, fun j hj => ?_⟩
    have hj9 : j < 9 := hj
    have : j = 0 ∨ j = 1 ∨ j = 2 ∨ j = 3 ∨ j = 4 ∨ j = 5 ∨ j = 6 ∨ j = 7 ∨ j = 8 := by omega
    rcases this with rfl | rfl | rfl | rfl | rfl | rfl | rfl | rfl | rfl
    · rw [e0]; rfl
    · rw [e1]; rfl
    · rw [e2]; rfl
    · rw [e3]; rfl
    · rw [e4]; rfl
    · rw [e5]; rfl
    · rw [e6]; rfl
    · rw [e7]; rfl
    · rw [e8]; rfl)
  have hbz : Tryz.prog.bytesOf 85 = 88 := by kernel_rfl
  rw [hbz] at hby
  exact ⟨A, c, l, e, hl, by omega, hr, hg⟩
theorem part_mks (h : Part enc Tryz.prog W 24 v d) :
    ∃ (A : Option Addr) (c : Nat) (l : List Mk), v = .slice A l.length c ∧ l.length ≤ c ∧ l.length ≤ 17592186044416 ∧ Reads W W.heap.size 2 A l.length (l.flatMap Mk.cs) := by
  obtain ⟨A, c, l, e, hl, _, hby, hr, hg⟩ := h.flat Tryz.underlying24 Tryz.underlying90 (by kernel_rfl) (by kernel_rfl) (by decide) Mk.cs (fun _ => rfl) (fun x => True) (fun us hu => by
    obtain ⟨y0, t0⟩ := hu 0 _ rfl
    obtain ⟨y1, t1⟩ := hu 1 _ rfl
    obtain ⟨x0, e0, _⟩ := t0.int Tryz.underlying3
    obtain ⟨x1, e1, _⟩ := t1.int Tryz.underlying3
    refine ⟨⟨x0, x1⟩, trivial, fun j hj => ?_⟩
    have hj9 : j < 2 := hj
    have : j = 0 ∨ j = 1 := by omega
    rcases this with rfl | rfl
    · rw [e0]; rfl
    · rw [e1]; rfl)
  have hbz : Tryz.prog.bytesOf 90 = 16 := by kernel_rfl
  rw [hbz] at hby
  exact ⟨A, c, l, e, hl, by omega, hr⟩
theorem part_ows (h : Part enc Tryz.prog W 51 v d) :
    ∃ (A : Option Addr) (c : Nat) (l : List Ow), v = .slice A l.length c ∧ l.length ≤ c ∧ l.length ≤ 17592186044416 ∧ Reads W W.heap.size 3 A l.length (l.flatMap Ow.cs) := by
  obtain ⟨A, c, l, e, hl, _, hby, hr, hg⟩ := h.flat Tryz.underlying51 Tryz.underlying26 (by kernel_rfl) (by kernel_rfl) (by decide) Ow.cs (fun _ => rfl) (fun x => True) (fun us hu => by
    obtain ⟨y0, t0⟩ := hu 0 _ rfl
    obtain ⟨y1, t1⟩ := hu 1 _ rfl
    obtain ⟨y2, t2⟩ := hu 2 _ rfl
    obtain ⟨x0, e0, _⟩ := t0.int Tryz.underlying3
    obtain ⟨x1, e1, _⟩ := t1.int Tryz.underlying3
    obtain ⟨x2, e2, _⟩ := t2.int Tryz.underlying3
    refine ⟨⟨x0, x1, x2⟩, trivial, fun j hj => ?_⟩
    have hj9 : j < 3 := hj
    have : j = 0 ∨ j = 1 ∨ j = 2 := by omega
    rcases this with rfl | rfl | rfl
    · rw [e0]; rfl
    · rw [e1]; rfl
    · rw [e2]; rfl)
  have hbz : Tryz.prog.bytesOf 26 = 24 := by kernel_rfl
  rw [hbz] at hby
  exact ⟨A, c, l, e, hl, by omega, hr⟩
theorem flat_str : ∀ l : List ByteArray, (l.flatMap fun s => [Value.string s]) = l.map Value.string
  | [] => rfl
  | a :: r => by rw [List.flatMap_cons, List.map_cons, flat_str r]; rfl
theorem part_strs (h : Part enc Tryz.prog W 23 v d) :
    ∃ (A : Option Addr) (c : Nat) (l : List ByteArray), v = .slice A l.length c ∧ l.length ≤ c ∧ l.length ≤ 17592186044416 ∧ Reads W W.heap.size 1 A l.length (l.map Value.string) ∧ ∀ k ∈ l, k.size ≤ 140737488351232 := by
  obtain ⟨A, c, l, e, hl, _, hby, hr, hg⟩ := h.rows Tryz.underlying23 (size := 1) (by kernel_rfl) (by decide) (fun s : ByteArray => [Value.string s]) (fun s => s.size ≤ 140737488351232) (fun cs y hcs hp => by
    match cs, hcs with
    | [c0], _ =>
      obtain ⟨s, rfl, hs⟩ := hp.one.str Tryz.underlying9
      exact ⟨s, hs, rfl⟩) (fun _ => rfl)
  have hbz : Tryz.prog.bytesOf 9 = 16 := by kernel_rfl
  rw [hbz] at hby
  rw [flat_str] at hr
  exact ⟨A, c, l, e, hl, by omega, hr, hg⟩
end
set_option maxRecDepth 100000 in
theorem arg_own {H : Type} {enc : TypeId × Value → H} {W : World} {v : Value} {d : DataW H} {cs : List Value} (hr : PartC enc Tryz.prog W 26 cs d) : ∃ y : Ow, cs = y.cs := by
  have h7 : cs.length = 3 := (hr.len Tryz.underlying26).trans (by kernel_rfl)
  match cs, h7 with
  | [c0, c1, c2], _ =>
    obtain ⟨y0, h0⟩ := hr.fieldAt Tryz.underlying26 0 0 1 3 (by kernel_rfl)
    obtain ⟨y1, h1⟩ := hr.fieldAt Tryz.underlying26 1 1 1 3 (by kernel_rfl)
    obtain ⟨y2, h2⟩ := hr.fieldAt Tryz.underlying26 2 2 1 3 (by kernel_rfl)
    have h0 : PartC enc Tryz.prog W 3 [c0] y0 := h0
    have h1 : PartC enc Tryz.prog W 3 [c1] y1 := h1
    have h2 : PartC enc Tryz.prog W 3 [c2] y2 := h2
    obtain ⟨a, rfl, _⟩ := h0.one.int Tryz.underlying3
    obtain ⟨b, rfl, _⟩ := h1.one.int Tryz.underlying3
    obtain ⟨c, rfl, _⟩ := h2.one.int Tryz.underlying3
    exact ⟨⟨a, b, c⟩, rfl⟩
set_option maxRecDepth 100000 in
theorem part_edit {H : Type} {enc : TypeId × Value → H} {W : World} {d : DataW H} {cs : List Value} (hr : PartC enc Tryz.prog W 28 cs d) : ∃ x q, cs = [.slice q.AA x.add.length q.cA, .slice q.AD x.drop.length q.cD, .slice q.AM x.marks.length q.cM, .int .i64 x.cut, .int .i64 x.fence, .int .i64 x.by_.agent, .int .i64 x.by_.life, .int .i64 x.by_.count] ∧ Edi W W.heap.size x q := by
  have h7 : cs.length = 8 := (hr.len Tryz.underlying28).trans (by kernel_rfl)
  match cs, h7 with
  | [c0, c1, c2, c3, c4, c5, c6, c7], _ =>
    obtain ⟨y0, h0⟩ := hr.fieldAt Tryz.underlying28 0 0 1 22 (by kernel_rfl)
    obtain ⟨y1, h1⟩ := hr.fieldAt Tryz.underlying28 1 1 1 23 (by kernel_rfl)
    obtain ⟨y2, h2⟩ := hr.fieldAt Tryz.underlying28 2 2 1 24 (by kernel_rfl)
    obtain ⟨y3, h3⟩ := hr.fieldAt Tryz.underlying28 3 3 1 3 (by kernel_rfl)
    obtain ⟨y4, h4⟩ := hr.fieldAt Tryz.underlying28 4 4 1 3 (by kernel_rfl)
    obtain ⟨y5, h5⟩ := hr.fieldAt Tryz.underlying28 5 5 3 26 (by kernel_rfl)
    have h0 : PartC enc Tryz.prog W 22 [c0] y0 := h0
    have h1 : PartC enc Tryz.prog W 23 [c1] y1 := h1
    have h2 : PartC enc Tryz.prog W 24 [c2] y2 := h2
    have h3 : PartC enc Tryz.prog W 3 [c3] y3 := h3
    have h4 : PartC enc Tryz.prog W 3 [c4] y4 := h4
    have h5 : PartC enc Tryz.prog W 26 [c5, c6, c7] y5 := h5
    obtain ⟨AE, cE, E, rfl, k1, k2, k3, k4⟩ := part_ens h0.one
    obtain ⟨AD, cD, D, rfl, k5, k6, k7, k8⟩ := part_strs h1.one
    obtain ⟨AM, cM, M, rfl, k9, k10, k11⟩ := part_mks h2.one
    obtain ⟨cut, rfl, _⟩ := h3.one.int Tryz.underlying3
    obtain ⟨fence, rfl, _⟩ := h4.one.int Tryz.underlying3
    obtain ⟨y, hy⟩ := arg_own (v := .bool true) h5
    injection hy with e1 hy
    injection hy with e2 hy
    injection hy with e3 _
    subst e1 e2 e3
    exact ⟨⟨E, D, M, cut, fence, y⟩, ⟨AE, cE, AD, cD, AM, cM⟩, rfl, ⟨k3, k7, k11, k2, k6, k10, k1, k5, k9, k4, k8⟩⟩
set_option maxRecDepth 100000 in
theorem arg_edit {H : Type} {enc : TypeId × Value → H} {W : World} {base : Nat} {v : Value} {d : DataW H} {p : List MemPlace} (h : Arg enc Tryz.prog W base 28 v d p) : ∃ x q, v = edV x q ∧ Edi W W.heap.size x q := by
  obtain ⟨cs, rfl, hsz⟩ := okWide_struct Tryz.underlying28 h.ok
  have hr : PartC enc Tryz.prog W 28 cs.toList d := ⟨by obtain ⟨m, hm⟩ := h.trod; exact ⟨m, p, hm⟩, h.sized⟩
  obtain ⟨x, q, hy, he⟩ := part_edit hr
  refine ⟨x, q, ?_, he⟩
  have hcs : cs = ⟨cs.toList⟩ := rfl
  rw [hcs, hy]
end Go.Proofs.YtibnehaibgbliaaGreat.Cp
