/- The acts of chapter 14's statements: as an argument, and their calls. -/
import Derived.Test.YtlljpjehalodfaaProg
import Derived.Test.YtlljpjehalodfaaPartC
import Derived.Test.YtlljpjehalodfaaStZ
namespace Go.Proofs.Ytlljpjehalodfaa
open Go.RowKit
open Go.ChangeShapes Go.WideShapes
namespace St

structure Ac where
  kind : Int
  key : ByteArray
  A : Option Addr
  c : Nat
  d : Bs
  ver : Int
  at_ : Int
  n : Int
  id : Int
  big : Int
def Ac.cells (a : Ac) : List Value := [.int .i64 a.kind, .string a.key, .slice a.A a.d.length a.c, .int .i64 a.ver, .int .i64 a.at_, .int .i64 a.n, .int .i64 a.id, .int .i64 a.big]
def Ac.val (a : Ac) : Value := .agg #[.int .i64 a.kind, .string a.key, .slice a.A a.d.length a.c, .int .i64 a.ver, .int .i64 a.at_, .int .i64 a.n, .int .i64 a.id, .int .i64 a.big]
structure Ac.ok (a : Ac) (W : World) (B : Nat) : Prop where
  key : a.key.size ≤ 140737488351232
  dc : a.d.length ≤ a.c
  cm : a.c ≤ 140737488351232
  bytes : Bytes W B a.A a.d.length a.d
  at_ : (Lit.int .i64 a.at_).wf = true
  n : (Lit.int .i64 a.n).wf = true
  id : (Lit.int .i64 a.id).wf = true
theorem part_bytes {H : Type} {enc : TypeId × Value → H} {W : World} {u : Value} {d : DataW H} (h : Part enc Try.prog W 28 u d) :
    ∃ (A : Option Addr) (c : Nat) (l : List UInt8), u = .slice A l.length c ∧ l.length ≤ c ∧ c ≤ 140737488351232 ∧ Bytes W W.heap.size A l.length l := by
  have hs := h.sized
  obtain ⟨fuel, p, hf⟩ := h.trod
  have hB : Try.prog.bytesOf 5 = 1 := by kernel_rfl
  rcases open_ints Try.underlying28 Try.underlying5 (by kernel_rfl) hf with ⟨hcs, _⟩ | ⟨x, n, c, zs, hcs, _, hl, hm, hz, hx, hcell, hwz⟩
  · simp at hcs
    subst hcs
    exact ⟨none, 0, [], rfl, Nat.le_refl _, by omega, rfl, Reads.none_⟩
  · simp at hcs
    subst hcs
    have hz : zs.length = c := by simpa using hz
    simp only [Prod.mk.injEq] at hx
    obtain ⟨rfl, rfl⟩ := hx
    have hr := hs (((lits (H := H) .u8 (zs.take n)).length + (lits (H := H) .u8 (zs.drop n)).length) * Try.prog.bytesOf 5) (by simp [DataW.weights, Try.underlying28])
    have hlen : (lits (H := H) .u8 (zs.take n)).length + (lits (H := H) .u8 (zs.drop n)).length = c := by simp [lits]; omega
    rw [hlen, hB, Nat.mul_one] at hr
    have hr' : c ≤ 140737488351232 := by simpa [reachBytes] using hr
    let l : List UInt8 := (zs.take n).map fun z => UInt8.ofNat z.toNat
    have hll : l.length = n := by simp [l]; omega
    have hrow : ∀ j (hj : j < n), W.cell? (x.add j) = some (byteV (l[j]'(by rw [hll]; exact hj))) := by
      intro j hj
      have h1 := hcell j (by omega)
      have hjz : j < zs.length := by omega
      have h2 := hwz zs[j] (List.getElem_mem hjz)
      have h3 : IntKind.u8.min = 0 := rfl
      have h4 : IntKind.u8.max = 255 := rfl
      simp only [Lit.wf, Bool.and_eq_true, decide_eq_true_eq, h3, h4] at h2
      rw [h1]
      simp only [byteV, l, List.getElem_map, List.getElem_take, Option.some.injEq, Value.int.injEq, true_and, UInt8.toNat_ofNat', List.getD, List.getElem?_eq_getElem hjz, Option.getD_some]
      omega
    refine ⟨some x, c, l, by rw [hll], by omega, hr', rfl, by simp, fun hn => ?_⟩
    obtain ⟨b, off, spot⟩ := x
    have hspot : spot = none := by simpa [Addr.add] using World.cell?_spot (hrow 0 (by omega))
    subst hspot
    refine ⟨b, off, rfl, ?_, fun j v hv => ?_⟩
    · have := World.block_lt_of_cell? W _ (hrow 0 (by omega))
      simpa [Addr.add] using this
    · rw [List.getElem?_map] at hv
      have hj : j < l.length := by
        rcases Nat.lt_or_ge j l.length with h | h
        · exact h
        · rw [List.getElem?_eq_none h] at hv; cases hv
      rw [List.getElem?_eq_getElem hj] at hv
      simp only [Option.map_some, Option.some.injEq] at hv
      subst hv
      have := hrow j (by omega)
      rw [addr_add] at this
      exact this
theorem part_act {H : Type} {enc : TypeId × Value → H} {W : World} {cs : List Value} {d : DataW H} (hl : cs.length = 8) (h : PartC enc Try.prog W 32 cs d) : ∃ x : Ac, x.ok W W.heap.size ∧ x.cells = cs := by
  match cs, hl with
  | [c0, c1, c2, c3, c4, c5, c6, c7], _ =>
    obtain ⟨yr, hr⟩ := h.fieldAt Try.underlying32 0 0 7 30 (by kernel_rfl)
    obtain ⟨y7, h7⟩ := h.fieldAt Try.underlying32 1 7 1 3 (by kernel_rfl)
    obtain ⟨y0, h0⟩ := hr.fieldAt Try.underlying30 0 0 1 3 (by kernel_rfl)
    obtain ⟨y1, h1⟩ := hr.fieldAt Try.underlying30 1 1 1 9 (by kernel_rfl)
    obtain ⟨y2, h2⟩ := hr.fieldAt Try.underlying30 2 2 1 28 (by kernel_rfl)
    obtain ⟨y3, h3⟩ := hr.fieldAt Try.underlying30 3 3 1 3 (by kernel_rfl)
    obtain ⟨y4, h4⟩ := hr.fieldAt Try.underlying30 4 4 1 3 (by kernel_rfl)
    obtain ⟨y5, h5⟩ := hr.fieldAt Try.underlying30 5 5 1 3 (by kernel_rfl)
    obtain ⟨y6, h6⟩ := hr.fieldAt Try.underlying30 6 6 1 3 (by kernel_rfl)
    have h0 : PartC enc Try.prog W 3 [c0] y0 := h0
    have h1 : PartC enc Try.prog W 9 [c1] y1 := h1
    have h2 : PartC enc Try.prog W 28 [c2] y2 := h2
    have h3 : PartC enc Try.prog W 3 [c3] y3 := h3
    have h4 : PartC enc Try.prog W 3 [c4] y4 := h4
    have h5 : PartC enc Try.prog W 3 [c5] y5 := h5
    have h6 : PartC enc Try.prog W 3 [c6] y6 := h6
    have h7 : PartC enc Try.prog W 3 [c7] y7 := h7
    obtain ⟨kind, rfl, _⟩ := h0.one.int Try.underlying3
    obtain ⟨key, rfl, sk⟩ := h1.one.str Try.underlying9
    obtain ⟨A, c, l, rfl, hlc, hcm, hb⟩ := part_bytes h2.one
    obtain ⟨ver, rfl, _⟩ := h3.one.int Try.underlying3
    obtain ⟨at_, rfl, wa⟩ := h4.one.int Try.underlying3
    obtain ⟨n, rfl, wn⟩ := h5.one.int Try.underlying3
    obtain ⟨id, rfl, wi⟩ := h6.one.int Try.underlying3
    obtain ⟨big, rfl, _⟩ := h7.one.int Try.underlying3
    exact ⟨⟨kind, key, A, c, l, ver, at_, n, id, big⟩, ⟨sk, hlc, hcm, hb, wa, wn, wi⟩, rfl⟩
/-- Acts that lie in the statement's own memory. -/
structure Acts (W : World) (B : Nat) (A : Option Addr) (l : List Ac) : Prop where
  rd : Reads W B 8 A l.length (l.flatMap Ac.cells)
  ok : ∀ a ∈ l, a.ok W B
set_option maxRecDepth 100000 in
theorem arg_acts {H : Type} {enc : TypeId × Value → H} {W : World} {base : Nat} {v : Value} {d : DataW H} {p : List MemPlace} (h : Arg enc Try.prog W base 22 v d p) :
    ∃ (A : Option Addr) (c : Nat) (l : List Ac), v = .slice A l.length c ∧ l.length ≤ c ∧ l.length ≤ 4398046511104 ∧ Acts W W.heap.size A l := by
  obtain ⟨A0, n0, c0, rfl⟩ := okWide_slice Try.underlying22 h.ok
  obtain ⟨A, c, l, e, hl, _, hby, hr, hg⟩ := (h.part rfl).rows Try.underlying22 (size := 8) (by kernel_rfl) (by decide) Ac.cells (fun x => x.ok W W.heap.size) (fun cs y h1 h2 => part_act h1 h2) (fun _ => rfl)
  have hbz : Try.prog.bytesOf 32 = 88 := by kernel_rfl
  rw [hbz] at hby
  exact ⟨A, c, l, e, hl, by omega, hr, hg⟩
theorem Ac.ok.below {a : Ac} {W W' : World} {B : Nat} (h : a.ok W B) (hb : Below B W W') : a.ok W' B := { h with bytes := h.bytes.below hb }
theorem Acts.below {W W' : World} {B : Nat} {A : Option Addr} {l : List Ac} (h : Acts W B A l) (hb : Below B W W') : Acts W' B A l := ⟨h.rd.below hb, fun a ha => (h.ok a ha).below hb⟩
theorem Acts.take {W : World} {B k : Nat} {A : Option Addr} {l : List Ac} (h : Acts W B A l) (hk : k ≤ l.length) : Acts W B A (l.take k) := by
  refine ⟨?_, fun a ha => h.ok a (List.mem_of_mem_take ha)⟩
  have h1 := h.rd.take hk
  have e : (l.take k).length = k := by rw [List.length_take]; omega
  rw [e]
  have e2 : (l.flatMap Ac.cells).take (k * 8) = (l.take k).flatMap Ac.cells := by
    clear h h1 e
    induction l generalizing k with
    | nil => simp
    | cons a r ih =>
      cases k with
      | zero => simp
      | succ k =>
        rw [List.take_succ_cons, List.flatMap_cons, List.flatMap_cons, ← ih (k := k) (by simpa using hk), Nat.add_mul, Nat.one_mul, Nat.add_comm (k * 8) 8]
        exact List.take_length_add_append (l₁ := a.cells) (k * 8)
  rw [← e2]; exact h1
def ac0 : Ac := ⟨0, .empty, none, 0, [], 0, 0, 0, 0, 0⟩
def ga (l : List Ac) (i : Nat) : Ac := l.getD i ac0
theorem ga_eq {l : List Ac} {i : Nat} (h : i < l.length) : l[i] = ga l i := by simp [ga, List.getD, List.getElem?_eq_getElem h]
theorem ga_mem {l : List Ac} {i : Nat} (h : i < l.length) : ga l i ∈ l := by rw [← ga_eq h]; exact List.getElem_mem h
theorem Acts.at_ {W : World} {B : Nat} {A : Option Addr} {l : List Ac} (h : Acts W B A l) {i : Nat} (hi : i < l.length) : ∃ b off, A = some ⟨b, off, none⟩ ∧ b < B ∧ ∀ j u, j < 8 → ((ga l i).cells)[j]? = some u → W.cell? ⟨b, off + i * 8 + j, none⟩ = some u := by
  obtain ⟨b, off, e, hb, hc⟩ := h.rd.2 (by omega)
  refine ⟨b, off, e, hb, fun j u hj hu => ?_⟩
  rw [Nat.add_assoc]
  refine hc _ _ ?_
  rw [flatMap_get (size := 8) (fun _ => rfl) l i hi j hj, ga_eq hi, hu]
end St
end Go.Proofs.Ytlljpjehalodfaa
