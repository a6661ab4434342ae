/- The acts of chapter 14's statements: as an argument, and their calls. The statements' helpers (chapter 14): call, Few, lives. The statements' helpers (chapter 14): Few, and a call as a whole. The statements' helpers (chapter 14): lives, and a store that lives. A store under a statement's acts (chapter 14). -/
import Derived.Test.YtlljpjehalodfaaGreatProg
import Derived.Test.YtlljpjehalodfaaGreatPartC
import Derived.Test.YtlljpjehalodfaaGreatStZ

namespace Go.Proofs.YtlljpjehalodfaaGreat
open Go.RowKit
open Go.ChangeShapes Go.WideShapes
namespace St

structure Ac where
  kind : Int
  key : ByteArray
  A : Option Addr
  c : Nat
  d : Bs
  ver : Int
  at_ : Int
  n : Int
  id : Int
  big : Int
def Ac.cells (a : Ac) : List Value := [.int .i64 a.kind, .string a.key, .slice a.A a.d.length a.c, .int .i64 a.ver, .int .i64 a.at_, .int .i64 a.n, .int .i64 a.id, .int .i64 a.big]
def Ac.val (a : Ac) : Value := .agg #[.int .i64 a.kind, .string a.key, .slice a.A a.d.length a.c, .int .i64 a.ver, .int .i64 a.at_, .int .i64 a.n, .int .i64 a.id, .int .i64 a.big]
structure Ac.ok (a : Ac) (W : World) (B : Nat) : Prop where
  key : a.key.size ≤ 140737488351232
  dc : a.d.length ≤ a.c
  cm : a.c ≤ 140737488351232
  bytes : Bytes W B a.A a.d.length a.d
  at_ : (Lit.int .i64 a.at_).wf = true
  n : (Lit.int .i64 a.n).wf = true
  id : (Lit.int .i64 a.id).wf = true
theorem part_bytes {H : Type} {enc : TypeId × Value → H} {W : World} {u : Value} {d : DataW H} (h : Part enc Tryz.prog W 32 u d) :
    ∃ (A : Option Addr) (c : Nat) (l : List UInt8), u = .slice A l.length c ∧ l.length ≤ c ∧ c ≤ 140737488351232 ∧ Bytes W W.heap.size A l.length l := by
  have hs := h.sized
  obtain ⟨fuel, p, hf⟩ := h.trod
  have hB : Tryz.prog.bytesOf 5 = 1 := by kernel_rfl
  rcases open_ints Tryz.underlying32 Tryz.underlying5 (by kernel_rfl) hf with ⟨hcs, _⟩ | ⟨x, n, c, zs, hcs, _, hl, hm, hz, hx, hcell, hwz⟩
  · simp at hcs
    subst hcs
    exact ⟨none, 0, [], rfl, Nat.le_refl _, by omega, rfl, Reads.none_⟩
  · simp at hcs
    subst hcs
    have hz : zs.length = c := by simpa using hz
    simp only [Prod.mk.injEq] at hx
    obtain ⟨rfl, rfl⟩ := hx
    have hr := hs (((lits (H := H) .u8 (zs.take n)).length + (lits (H := H) .u8 (zs.drop n)).length) * Tryz.prog.bytesOf 5) (by simp [DataW.weights, Tryz.underlying32])
    have hlen : (lits (H := H) .u8 (zs.take n)).length + (lits (H := H) .u8 (zs.drop n)).length = c := by simp [lits]; omega
    rw [hlen, hB, Nat.mul_one] at hr
    have hr' : c ≤ 140737488351232 := by simpa [reachBytes] using hr
    let l : List UInt8 := (zs.take n).map fun z => UInt8.ofNat z.toNat
    have hll : l.length = n := by simp [l]; omega
    have hrow : ∀ j (hj : j < n), W.cell? (x.add j) = some (byteV (l[j]'(by rw [hll]; exact hj))) := by
      intro j hj
      have h1 := hcell j (by omega)
      have hjz : j < zs.length := by omega
      have h2 := hwz zs[j] (List.getElem_mem hjz)
      have h3 : IntKind.u8.min = 0 := rfl
      have h4 : IntKind.u8.max = 255 := rfl
      simp only [Lit.wf, Bool.and_eq_true, decide_eq_true_eq, h3, h4] at h2
      rw [h1]
      simp only [byteV, l, List.getElem_map, List.getElem_take, Option.some.injEq, Value.int.injEq, true_and, UInt8.toNat_ofNat', List.getD, List.getElem?_eq_getElem hjz, Option.getD_some]
      omega
    refine ⟨some x, c, l, by rw [hll], by omega, hr', rfl, by simp, fun hn => ?_⟩
    obtain ⟨b, off, spot⟩ := x
    have hspot : spot = none := by simpa [Addr.add] using World.cell?_spot (hrow 0 (by omega))
    subst hspot
    refine ⟨b, off, rfl, ?_, fun j v hv => ?_⟩
    · have := World.block_lt_of_cell? W _ (hrow 0 (by omega))
      simpa [Addr.add] using this
    · rw [List.getElem?_map] at hv
      have hj : j < l.length := by
        rcases Nat.lt_or_ge j l.length with h | h
        · exact h
        · rw [List.getElem?_eq_none h] at hv; cases hv
      rw [List.getElem?_eq_getElem hj] at hv
      simp only [Option.map_some, Option.some.injEq] at hv
      subst hv
      have := hrow j (by omega)
      rw [addr_add] at this
      exact this
theorem part_act {H : Type} {enc : TypeId × Value → H} {W : World} {cs : List Value} {d : DataW H} (hl : cs.length = 8) (h : PartC enc Tryz.prog W 36 cs d) : ∃ x : Ac, x.ok W W.heap.size ∧ x.cells = cs := by
  match cs, hl with
  | [c0, c1, c2, c3, c4, c5, c6, c7], _ =>
    obtain ⟨yr, hr⟩ := h.fieldAt Tryz.underlying36 0 0 7 34 (by kernel_rfl)
    obtain ⟨y7, h7⟩ := h.fieldAt Tryz.underlying36 1 7 1 3 (by kernel_rfl)
    obtain ⟨y0, h0⟩ := hr.fieldAt Tryz.underlying34 0 0 1 3 (by kernel_rfl)
    obtain ⟨y1, h1⟩ := hr.fieldAt Tryz.underlying34 1 1 1 9 (by kernel_rfl)
    obtain ⟨y2, h2⟩ := hr.fieldAt Tryz.underlying34 2 2 1 32 (by kernel_rfl)
    obtain ⟨y3, h3⟩ := hr.fieldAt Tryz.underlying34 3 3 1 3 (by kernel_rfl)
    obtain ⟨y4, h4⟩ := hr.fieldAt Tryz.underlying34 4 4 1 3 (by kernel_rfl)
    obtain ⟨y5, h5⟩ := hr.fieldAt Tryz.underlying34 5 5 1 3 (by kernel_rfl)
    obtain ⟨y6, h6⟩ := hr.fieldAt Tryz.underlying34 6 6 1 3 (by kernel_rfl)
    have h0 : PartC enc Tryz.prog W 3 [c0] y0 := h0
    have h1 : PartC enc Tryz.prog W 9 [c1] y1 := h1
    have h2 : PartC enc Tryz.prog W 32 [c2] y2 := h2
    have h3 : PartC enc Tryz.prog W 3 [c3] y3 := h3
    have h4 : PartC enc Tryz.prog W 3 [c4] y4 := h4
    have h5 : PartC enc Tryz.prog W 3 [c5] y5 := h5
    have h6 : PartC enc Tryz.prog W 3 [c6] y6 := h6
    have h7 : PartC enc Tryz.prog W 3 [c7] y7 := h7
    obtain ⟨kind, rfl, _⟩ := h0.one.int Tryz.underlying3
    obtain ⟨key, rfl, sk⟩ := h1.one.str Tryz.underlying9
    obtain ⟨A, c, l, rfl, hlc, hcm, hb⟩ := part_bytes h2.one
    obtain ⟨ver, rfl, _⟩ := h3.one.int Tryz.underlying3
    obtain ⟨at_, rfl, wa⟩ := h4.one.int Tryz.underlying3
    obtain ⟨n, rfl, wn⟩ := h5.one.int Tryz.underlying3
    obtain ⟨id, rfl, wi⟩ := h6.one.int Tryz.underlying3
    obtain ⟨big, rfl, _⟩ := h7.one.int Tryz.underlying3
    exact ⟨⟨kind, key, A, c, l, ver, at_, n, id, big⟩, ⟨sk, hlc, hcm, hb, wa, wn, wi⟩, rfl⟩
/-- Acts that lie in the statement's own memory. -/
structure Acts (W : World) (B : Nat) (A : Option Addr) (l : List Ac) : Prop where
  rd : Reads W B 8 A l.length (l.flatMap Ac.cells)
  ok : ∀ a ∈ l, a.ok W B
set_option maxRecDepth 100000 in
theorem arg_acts {H : Type} {enc : TypeId × Value → H} {W : World} {base : Nat} {v : Value} {d : DataW H} {p : List MemPlace} (h : Arg enc Tryz.prog W base 22 v d p) :
    ∃ (A : Option Addr) (c : Nat) (l : List Ac), v = .slice A l.length c ∧ l.length ≤ c ∧ l.length ≤ 4398046511104 ∧ Acts W W.heap.size A l := by
  obtain ⟨A0, n0, c0, rfl⟩ := okWide_slice Tryz.underlying22 h.ok
  obtain ⟨A, c, l, e, hl, _, hby, hr, hg⟩ := (h.part rfl).rows Tryz.underlying22 (size := 8) (by kernel_rfl) (by decide) Ac.cells (fun x => x.ok W W.heap.size) (fun cs y h1 h2 => part_act h1 h2) (fun _ => rfl)
  have hbz : Tryz.prog.bytesOf 36 = 88 := by kernel_rfl
  rw [hbz] at hby
  exact ⟨A, c, l, e, hl, by omega, hr, hg⟩
theorem Ac.ok.below {a : Ac} {W W' : World} {B : Nat} (h : a.ok W B) (hb : Below B W W') : a.ok W' B := { h with bytes := h.bytes.below hb }
theorem Acts.below {W W' : World} {B : Nat} {A : Option Addr} {l : List Ac} (h : Acts W B A l) (hb : Below B W W') : Acts W' B A l := ⟨h.rd.below hb, fun a ha => (h.ok a ha).below hb⟩
theorem Acts.take {W : World} {B k : Nat} {A : Option Addr} {l : List Ac} (h : Acts W B A l) (hk : k ≤ l.length) : Acts W B A (l.take k) := by
  refine ⟨?_, fun a ha => h.ok a (List.mem_of_mem_take ha)⟩
  have h1 := h.rd.take hk
  have e : (l.take k).length = k := by rw [List.length_take]; omega
  rw [e]
  have e2 : (l.flatMap Ac.cells).take (k * 8) = (l.take k).flatMap Ac.cells := by
    clear h h1 e
    induction l generalizing k with
    | nil => simp
    | cons a r ih =>
      cases k with
      | zero => simp
      | succ k =>
        rw [List.take_succ_cons, List.flatMap_cons, List.flatMap_cons, ← ih (k := k) (by simpa using hk), Nat.add_mul, Nat.one_mul, Nat.add_comm (k * 8) 8]
        exact List.take_length_add_append (l₁ := a.cells) (k * 8)
  rw [← e2]; exact h1
def ac0 : Ac := ⟨0, .empty, none, 0, [], 0, 0, 0, 0, 0⟩
def ga (l : List Ac) (i : Nat) : Ac := l.getD i ac0
theorem ga_eq {l : List Ac} {i : Nat} (h : i < l.length) : l[i] = ga l i := by simp [ga, List.getD, List.getElem?_eq_getElem h]
theorem ga_mem {l : List Ac} {i : Nat} (h : i < l.length) : ga l i ∈ l := by rw [← ga_eq h]; exact List.getElem_mem h
theorem Acts.at_ {W : World} {B : Nat} {A : Option Addr} {l : List Ac} (h : Acts W B A l) {i : Nat} (hi : i < l.length) : ∃ b off, A = some ⟨b, off, none⟩ ∧ b < B ∧ ∀ j u, j < 8 → ((ga l i).cells)[j]? = some u → W.cell? ⟨b, off + i * 8 + j, none⟩ = some u := by
  obtain ⟨b, off, e, hb, hc⟩ := h.rd.2 (by omega)
  refine ⟨b, off, e, hb, fun j u hj hu => ?_⟩
  rw [Nat.add_assoc]
  refine hc _ _ ?_
  rw [flatMap_get (size := 8) (fun _ => rfl) l i hi j hj, ga_eq hi, hu]
end St
end Go.Proofs.YtlljpjehalodfaaGreat

namespace Go.Proofs.YtlljpjehalodfaaGreat
open Go.RowKit
namespace St

def Ac.data (a : Ac) : Bs := if 0 < a.big then List.replicate (min a.big 262145).toNat 0 else a.d
def Ac.cl (a : Ac) (A : Option Addr) (c : Nat) : Cl := ⟨a.kind, a.key, A, c, a.data, a.ver, a.at_, a.n, a.id⟩
set_option maxRecDepth 100000 in
set_option maxHeartbeats 1600000 in
theorem call_loc (w : World) {gs : Nat} (a : Ac) (hd : Dat w gs a.A a.c a.d) (hgs : gs < w.heap.size) :
    Calls Tryz.prog 9 #[a.val] w fun e w' => ∃ A c, e = .returned (a.cl A c).val ∧ Dat w' gs A c a.data ∧ ((A = a.A ∧ a.data = a.d) ∨ High w.heap.size A) ∧ Below w.heap.size w w' := by
  obtain ⟨kind, key, A, c, d, ver, at_, n, id, big⟩ := a
  unfold Ac.val Ac.cl Ac.data Cl.val Cl.cells
  dsimp only at *
  have HD := Lib.hid hd
  clear hd
  by_cases hb : 0 < big
  · have d1 := dct hb
    obtain ⟨m, hm⟩ : ∃ m : Nat, min big 262145 = (m : Int) := ⟨(min big 262145).toNat, by omega⟩
    have hm9 : m ≤ 262145 := by omega
    have e1 : (if 0 < big then List.replicate (min big 262145).toNat (0 : UInt8) else d) = List.replicate m 0 := by rw [if_pos hb, hm]; rfl
    rw [e1]
    clear e1
    go_enter Tryz.func9, Tryz.ntmps9
    go_upto_region 3 with fail
    have hw3 : Below w.heap.size w (((w.alloc (.cells #[.int .i64 kind, .string key, .slice A d.length c, .int .i64 ver, .int .i64 at_, .int .i64 n, .int .i64 id, .int .i64 big] 36)).alloc (.cells #[.int .i64 0, .string ⟨#[]⟩, .slice none 0 0, .int .i64 0, .int .i64 0, .int .i64 0, .int .i64 0] 34)).alloc (.cells #[.int .i64 kind, .string key, .slice A d.length c, .int .i64 ver, .int .i64 at_, .int .i64 n, .int .i64 id] 34)) := (((Below.refl _ _).alloc (Nat.le_refl _) _).alloc (by simp) _).alloc (by simp; omega) _
    have HBA := Lib.hid (((Blk.new w 36 #[.int .i64 kind, .string key, .slice A d.length c, .int .i64 ver, .int .i64 at_, .int .i64 n, .int .i64 id, .int .i64 big]).alloc (.cells #[.int .i64 0, .string ⟨#[]⟩, .slice none 0 0, .int .i64 0, .int .i64 0, .int .i64 0, .int .i64 0] 34)).alloc (.cells #[.int .i64 kind, .string key, .slice A d.length c, .int .i64 ver, .int .i64 at_, .int .i64 n, .int .i64 id] 34))
    have hz1 : (w.alloc (.cells #[.int .i64 kind, .string key, .slice A d.length c, .int .i64 ver, .int .i64 at_, .int .i64 n, .int .i64 id, .int .i64 big] 36)).heap.size = w.heap.size + 1 := by simp
    have hz2 : ((w.alloc (.cells #[.int .i64 kind, .string key, .slice A d.length c, .int .i64 ver, .int .i64 at_, .int .i64 n, .int .i64 id, .int .i64 big] 36)).alloc (.cells #[.int .i64 0, .string ⟨#[]⟩, .slice none 0 0, .int .i64 0, .int .i64 0, .int .i64 0, .int .i64 0] 34)).heap.size = w.heap.size + 1 + 1 := by simp
    have HBR := (Blk.new (w.alloc (.cells #[.int .i64 kind, .string key, .slice A d.length c, .int .i64 ver, .int .i64 at_, .int .i64 n, .int .i64 id, .int .i64 big] 36)) 34 #[.int .i64 0, .string ⟨#[]⟩, .slice none 0 0, .int .i64 0, .int .i64 0, .int .i64 0, .int .i64 0]).alloc (.cells #[.int .i64 kind, .string key, .slice A d.length c, .int .i64 ver, .int .i64 at_, .int .i64 n, .int .i64 id] 34)
    rw [hz1] at HBR
    have HBC := Blk.new ((w.alloc (.cells #[.int .i64 kind, .string key, .slice A d.length c, .int .i64 ver, .int .i64 at_, .int .i64 n, .int .i64 id, .int .i64 big] 36)).alloc (.cells #[.int .i64 0, .string ⟨#[]⟩, .slice none 0 0, .int .i64 0, .int .i64 0, .int .i64 0, .int .i64 0] 34)) 34 #[.int .i64 kind, .string key, .slice A d.length c, .int .i64 ver, .int .i64 at_, .int .i64 n, .int .i64 id]
    rw [hz2] at HBC
    have HBR := Lib.hid HBR
    have HBC := Lib.hid HBC
    clear hz1 hz2
    generalize ((w.alloc (.cells #[.int .i64 kind, .string key, .slice A d.length c, .int .i64 ver, .int .i64 at_, .int .i64 n, .int .i64 id, .int .i64 big] 36)).alloc (.cells #[.int .i64 0, .string ⟨#[]⟩, .slice none 0 0, .int .i64 0, .int .i64 0, .int .i64 0, .int .i64 0] 34)).alloc (.cells #[.int .i64 kind, .string key, .slice A d.length c, .int .i64 ver, .int .i64 at_, .int .i64 n, .int .i64 id] 34) = w3 at *
    have k7 : w3.cell? ⟨w.heap.size, 7, none⟩ = some (.int .i64 big) := HBA.out.cell 7
    obtain ⟨i, hi, hzz, hsz, hby⟩ := info_parts Tryz.infoU8s
    obtain ⟨w4, hrun, hown4, hg4⟩ := run_makeSlice_full (P := Tryz.prog) w3 w3.heap.size 32 5 i _ 1 Tryz.underlying32 hi hzz hsz .i64 .i64 m (by omega) (by rw [hby]; omega) (by unfold maxLen; omega) (Nat.le_refl _)
    have hb4 : Below w3.heap.size w3 w4 := (Below.refl _ _).grown hg4 (Nat.le_refl _) (by intro g hg; cases hg)
    have hmc : (madeCells (Value.int .u8 0).cells (m * 1)).toList = (List.replicate m (0 : UInt8)).map byteV := by
      have e : ∀ k, (madeCells (Value.int .u8 0).cells k).toList = List.replicate k (.int .u8 0) := fun k => by
        unfold madeCells
        rw [Array.toList_map, Array.toList_range]
        have e2 : (fun x => (Value.int .u8 0).cells[x % (Value.int .u8 0).cells.size]!) = fun _ : Nat => (Value.int .u8 0) := by
          funext x
          have : x % (Value.int .u8 0).cells.size = 0 := Nat.mod_one x
          rw [this]; rfl
        rw [e2, List.map_const', List.length_range]
      rw [e, Nat.mul_one, List.map_replicate]; rfl
    rw [hmc] at hown4
    have HW3S := Lib.hid hw3.size
    have HBR4 := Lib.hid (HBR.out.below hb4 HBR.out.lt)
    have HBC4 := Lib.hid (HBC.out.below hb4 HBC.out.lt)
    have HD4 : Hid (Dat w4 gs (some ⟨w3.heap.size, 0, none⟩) m (List.replicate m 0)) := Lib.hid (Dat.of_own (base := w3.heap.size) (t := 5) (by rw [List.length_replicate]; exact hown4) (by have := hw3.size; omega))
    have HB4 := Lib.hid (hw3.trans (hb4.mono hw3.size))
    have hgl : w.heap.size + 1 + 1 < w3.heap.size := HBC.out.lt
    have c2 : w4.cell? ⟨w.heap.size + 1 + 1, 2, none⟩ = some (.slice A d.length c) := HBC4.out.cell 2
    have f2 : w4.frozen? ⟨w.heap.size + 1 + 1, 2, none⟩ = false := HBC4.out.frozen 2
    clear hi hzz hsz hby hown4 hg4 hb4 hmc HBR HBC HBA
    go_upto_region 4 with fail
    have HBC5 := Lib.hid (HBC4.out.set_ 2 (.slice (some ⟨w3.heap.size, 0, none⟩) m m))
    have HBR5 := Lib.hid (HBR4.out.far (p := ⟨w.heap.size + 1 + 1, 2, none⟩) (by simp) (.slice (some ⟨w3.heap.size, 0, none⟩) m m))
    have HD5 : Hid (Dat (w4.setCell ⟨w.heap.size + 1 + 1, 2, none⟩ (.slice (some ⟨w3.heap.size, 0, none⟩) m m)) gs (some ⟨w3.heap.size, 0, none⟩) m (List.replicate m 0)) := Lib.hid (HD4.out.far (g := w.heap.size + 1 + 1) (fun b off e hd hbg => by injection e with e; injection e with e; omega) (Keep.setCell (F := fun i => i = w.heap.size + 1 + 1) (Keep.refl _ _) (p := ⟨w.heap.size + 1 + 1, 2, none⟩) (.inl rfl) _))
    have HB5 := Lib.hid (HB4.out.setCell (p := ⟨w.heap.size + 1 + 1, 2, none⟩) (by show w.heap.size ≤ w.heap.size + 1 + 1; omega) (.slice (some ⟨w3.heap.size, 0, none⟩) m m))
    clear HBC4 HBR4 HD4 HB4 c2 f2 hrun k7
    generalize w4.setCell ⟨w.heap.size + 1 + 1, 2, none⟩ (.slice (some ⟨w3.heap.size, 0, none⟩) m m) = w5 at *
    generalize hg3 : w.heap.size + 1 + 1 = g3 at *
    generalize hg2 : w.heap.size + 1 = g2 at *
    have r0 : w5.cell? ⟨g3, 0, none⟩ = some (.int .i64 kind) := HBC5.out.cell 0
    have r1 : w5.cell? ⟨g3, 1, none⟩ = some (.string key) := HBC5.out.cell 1
    have r2 : w5.cell? ⟨g3, 2, none⟩ = some (.slice (some ⟨w3.heap.size, 0, none⟩) m m) := HBC5.out.cell 2
    have r3 : w5.cell? ⟨g3, 3, none⟩ = some (.int .i64 ver) := HBC5.out.cell 3
    have r4 : w5.cell? ⟨g3, 4, none⟩ = some (.int .i64 at_) := HBC5.out.cell 4
    have r5 : w5.cell? ⟨g3, 5, none⟩ = some (.int .i64 n) := HBC5.out.cell 5
    have r6 : w5.cell? ⟨g3, 6, none⟩ = some (.int .i64 id) := HBC5.out.cell 6
    have q0 : w5.cell? ⟨g2, 0, none⟩ = some (.int .i64 0) := HBR5.out.cell 0
    have p0 : w5.frozen? ⟨g2, 0, none⟩ = false := HBR5.out.frozen 0
    have q1 : w5.cell? ⟨g2, 1, none⟩ = some (.string ⟨#[]⟩) := HBR5.out.cell 1
    have p1 : w5.frozen? ⟨g2, 1, none⟩ = false := HBR5.out.frozen 1
    have q2 : w5.cell? ⟨g2, 2, none⟩ = some (.slice none 0 0) := HBR5.out.cell 2
    have p2 : w5.frozen? ⟨g2, 2, none⟩ = false := HBR5.out.frozen 2
    have q3 : w5.cell? ⟨g2, 3, none⟩ = some (.int .i64 0) := HBR5.out.cell 3
    have p3 : w5.frozen? ⟨g2, 3, none⟩ = false := HBR5.out.frozen 3
    have q4 : w5.cell? ⟨g2, 4, none⟩ = some (.int .i64 0) := HBR5.out.cell 4
    have p4 : w5.frozen? ⟨g2, 4, none⟩ = false := HBR5.out.frozen 4
    have q5 : w5.cell? ⟨g2, 5, none⟩ = some (.int .i64 0) := HBR5.out.cell 5
    have p5 : w5.frozen? ⟨g2, 5, none⟩ = false := HBR5.out.frozen 5
    have q6 : w5.cell? ⟨g2, 6, none⟩ = some (.int .i64 0) := HBR5.out.cell 6
    have p6 : w5.frozen? ⟨g2, 6, none⟩ = false := HBR5.out.frozen 6
    go_wp2
    have hw := set7_blk (v0 := .int .i64 kind) (v1 := .string key) (v2 := .slice (some ⟨w3.heap.size, 0, none⟩) m m) (v3 := .int .i64 ver) (v4 := .int .i64 at_) (v5 := .int .i64 n) (v6 := .int .i64 id) HBR5.out
    have hk := set7_keep (w := w5) (g := g2) (v0 := .int .i64 kind) (v1 := .string key) (v2 := .slice (some ⟨w3.heap.size, 0, none⟩) m m) (v3 := .int .i64 ver) (v4 := .int .i64 at_) (v5 := .int .i64 n) (v6 := .int .i64 id)
    have hD7 := HD5.out.far (g := g2) (fun b off e hd hbg => by injection e with e; injection e with e; omega) hk
    have hB7 := HB5.out.trans (hk.below (B := w.heap.size) HB5.out.size (fun i e => by omega))
    unfold set7 at hw hD7 hB7
    refine bodyPost_ret (results_cell_row rfl _ _ g2 34 #[.int .i64 kind, .string key, .slice (some ⟨w3.heap.size, 0, none⟩) m m, .int .i64 ver, .int .i64 at_, .int .i64 n, .int .i64 id] (0, 0) _ rfl hw Tryz.underlying34 rfl (by kernel_rfl)) rfl ?_
    exact ⟨some ⟨w3.heap.size, 0, none⟩, m, by rw [List.length_replicate], hD7, .inr (fun x hx => by injection hx with hx; rw [← hx]; exact HW3S.out), hB7⟩
  · have d1 := dcf hb
    rw [if_neg hb]
    go_enter Tryz.func9, Tryz.ntmps9
    go_upto_region 4 with fail
    have HB5 : Hid (Below w.heap.size w (((w.alloc (.cells #[.int .i64 kind, .string key, .slice A d.length c, .int .i64 ver, .int .i64 at_, .int .i64 n, .int .i64 id, .int .i64 big] 36)).alloc (.cells #[.int .i64 0, .string ⟨#[]⟩, .slice none 0 0, .int .i64 0, .int .i64 0, .int .i64 0, .int .i64 0] 34)).alloc (.cells #[.int .i64 kind, .string key, .slice A d.length c, .int .i64 ver, .int .i64 at_, .int .i64 n, .int .i64 id] 34))) := Lib.hid ((((Below.refl _ _).alloc (Nat.le_refl _) _).alloc (by simp) _).alloc (by simp; omega) _)
    have hz1 : (w.alloc (.cells #[.int .i64 kind, .string key, .slice A d.length c, .int .i64 ver, .int .i64 at_, .int .i64 n, .int .i64 id, .int .i64 big] 36)).heap.size = w.heap.size + 1 := by simp
    have hz2 : ((w.alloc (.cells #[.int .i64 kind, .string key, .slice A d.length c, .int .i64 ver, .int .i64 at_, .int .i64 n, .int .i64 id, .int .i64 big] 36)).alloc (.cells #[.int .i64 0, .string ⟨#[]⟩, .slice none 0 0, .int .i64 0, .int .i64 0, .int .i64 0, .int .i64 0] 34)).heap.size = w.heap.size + 1 + 1 := by simp
    have HBR := (Blk.new (w.alloc (.cells #[.int .i64 kind, .string key, .slice A d.length c, .int .i64 ver, .int .i64 at_, .int .i64 n, .int .i64 id, .int .i64 big] 36)) 34 #[.int .i64 0, .string ⟨#[]⟩, .slice none 0 0, .int .i64 0, .int .i64 0, .int .i64 0, .int .i64 0]).alloc (.cells #[.int .i64 kind, .string key, .slice A d.length c, .int .i64 ver, .int .i64 at_, .int .i64 n, .int .i64 id] 34)
    rw [hz1] at HBR
    have HBC := Blk.new ((w.alloc (.cells #[.int .i64 kind, .string key, .slice A d.length c, .int .i64 ver, .int .i64 at_, .int .i64 n, .int .i64 id, .int .i64 big] 36)).alloc (.cells #[.int .i64 0, .string ⟨#[]⟩, .slice none 0 0, .int .i64 0, .int .i64 0, .int .i64 0, .int .i64 0] 34)) 34 #[.int .i64 kind, .string key, .slice A d.length c, .int .i64 ver, .int .i64 at_, .int .i64 n, .int .i64 id]
    rw [hz2] at HBC
    have HBR5 := Lib.hid HBR
    have HBC5 := Lib.hid HBC
    have HD5 := Lib.hid (HD.out.keep (F := fun _ => False) (Keep.of_below ((((Below.refl w.heap.size w).alloc (Nat.le_refl _) (.cells #[.int .i64 kind, .string key, .slice A d.length c, .int .i64 ver, .int .i64 at_, .int .i64 n, .int .i64 id, .int .i64 big] 36)).alloc (by simp) (.cells #[.int .i64 0, .string ⟨#[]⟩, .slice none 0 0, .int .i64 0, .int .i64 0, .int .i64 0, .int .i64 0] 34)).alloc (by simp; omega) (.cells #[.int .i64 kind, .string key, .slice A d.length c, .int .i64 ver, .int .i64 at_, .int .i64 n, .int .i64 id] 34))) (fun _ _ _ _ _ _ h => h))
    have hoff : Off (w.heap.size + 1) A d := HD.out.off (by omega)
    clear hz1 hz2 HBR HBC
    generalize ((w.alloc (.cells #[.int .i64 kind, .string key, .slice A d.length c, .int .i64 ver, .int .i64 at_, .int .i64 n, .int .i64 id, .int .i64 big] 36)).alloc (.cells #[.int .i64 0, .string ⟨#[]⟩, .slice none 0 0, .int .i64 0, .int .i64 0, .int .i64 0, .int .i64 0] 34)).alloc (.cells #[.int .i64 kind, .string key, .slice A d.length c, .int .i64 ver, .int .i64 at_, .int .i64 n, .int .i64 id] 34) = w5 at *
    generalize hg3 : w.heap.size + 1 + 1 = g3 at *
    generalize hg2 : w.heap.size + 1 = g2 at *
    have r0 : w5.cell? ⟨g3, 0, none⟩ = some (.int .i64 kind) := HBC5.out.cell 0
    have r1 : w5.cell? ⟨g3, 1, none⟩ = some (.string key) := HBC5.out.cell 1
    have r2 : w5.cell? ⟨g3, 2, none⟩ = some (.slice A d.length c) := HBC5.out.cell 2
    have r3 : w5.cell? ⟨g3, 3, none⟩ = some (.int .i64 ver) := HBC5.out.cell 3
    have r4 : w5.cell? ⟨g3, 4, none⟩ = some (.int .i64 at_) := HBC5.out.cell 4
    have r5 : w5.cell? ⟨g3, 5, none⟩ = some (.int .i64 n) := HBC5.out.cell 5
    have r6 : w5.cell? ⟨g3, 6, none⟩ = some (.int .i64 id) := HBC5.out.cell 6
    have q0 : w5.cell? ⟨g2, 0, none⟩ = some (.int .i64 0) := HBR5.out.cell 0
    have p0 : w5.frozen? ⟨g2, 0, none⟩ = false := HBR5.out.frozen 0
    have q1 : w5.cell? ⟨g2, 1, none⟩ = some (.string ⟨#[]⟩) := HBR5.out.cell 1
    have p1 : w5.frozen? ⟨g2, 1, none⟩ = false := HBR5.out.frozen 1
    have q2 : w5.cell? ⟨g2, 2, none⟩ = some (.slice none 0 0) := HBR5.out.cell 2
    have p2 : w5.frozen? ⟨g2, 2, none⟩ = false := HBR5.out.frozen 2
    have q3 : w5.cell? ⟨g2, 3, none⟩ = some (.int .i64 0) := HBR5.out.cell 3
    have p3 : w5.frozen? ⟨g2, 3, none⟩ = false := HBR5.out.frozen 3
    have q4 : w5.cell? ⟨g2, 4, none⟩ = some (.int .i64 0) := HBR5.out.cell 4
    have p4 : w5.frozen? ⟨g2, 4, none⟩ = false := HBR5.out.frozen 4
    have q5 : w5.cell? ⟨g2, 5, none⟩ = some (.int .i64 0) := HBR5.out.cell 5
    have p5 : w5.frozen? ⟨g2, 5, none⟩ = false := HBR5.out.frozen 5
    have q6 : w5.cell? ⟨g2, 6, none⟩ = some (.int .i64 0) := HBR5.out.cell 6
    have p6 : w5.frozen? ⟨g2, 6, none⟩ = false := HBR5.out.frozen 6
    go_wp2
    have hw := set7_blk (v0 := .int .i64 kind) (v1 := .string key) (v2 := .slice A d.length c) (v3 := .int .i64 ver) (v4 := .int .i64 at_) (v5 := .int .i64 n) (v6 := .int .i64 id) HBR5.out
    have hk := set7_keep (w := w5) (g := g2) (v0 := .int .i64 kind) (v1 := .string key) (v2 := .slice A d.length c) (v3 := .int .i64 ver) (v4 := .int .i64 at_) (v5 := .int .i64 n) (v6 := .int .i64 id)
    have hD7 := HD5.out.far (g := g2) (hoff) hk
    have hB7 := HB5.out.trans (hk.below (B := w.heap.size) HB5.out.size (fun i e => by omega))
    unfold set7 at hw hD7 hB7
    refine bodyPost_ret (results_cell_row rfl _ _ g2 34 #[.int .i64 kind, .string key, .slice A d.length c, .int .i64 ver, .int .i64 at_, .int .i64 n, .int .i64 id] (0, 0) _ rfl hw Tryz.underlying34 rfl (by kernel_rfl)) rfl ?_
    exact ⟨A, c, rfl, hD7, (by first | exact .inl ⟨rfl, rfl⟩ | exact .inl rfl), hB7⟩
theorem call_calls (w : World) {gs : Nat} (a : Ac) (hd : Dat w gs a.A a.c a.d) (hgs : gs < w.heap.size) :
    Calls Tryz.prog 9 #[a.val] w fun e w' => ∃ A c, e = .returned (a.cl A c).val ∧ Dat w' gs A c a.data ∧ Below w.heap.size w w' :=
  (call_loc w a hd hgs).mono fun _ _ ⟨A, c, h1, h2, _, h4⟩ => ⟨A, c, h1, h2, h4⟩
end St
end Go.Proofs.YtlljpjehalodfaaGreat

namespace Go.Proofs.YtlljpjehalodfaaGreat
open Go.RowKit
namespace St

set_option maxRecDepth 100000 in
set_option maxHeartbeats 1600000 in
theorem few_calls (w : World) {B c most : Nat} {A : Option Addr} {l : List Ac} (h : Acts w B A l) (hB : B ≤ w.heap.size) (hc : l.length ≤ c) (hl : l.length ≤ 4398046511104) (hm : 0 < most) :
    Calls Tryz.prog 6 #[.slice A l.length c, .int .i64 (most : Int)] w fun e w' => ∃ k, k ≤ l.length ∧ k ≤ most ∧ e = .returned (.slice A k c) ∧ Below w.heap.size w w' := by
  have HL := Lib.hid h
  clear h
  go_enter Tryz.func6, Tryz.ntmps6
  go_wp2
  go_loopw [5, 10] (fun n i wr => ∃ (j k : Nat), j ≤ l.length ∧ j ≤ most ∧ i = .int .i64 (j : Int) ∧ n = .int .i64 (k : Int) ∧ k ≤ 20000 ∧ Hid (Below w.heap.size w wr)) (fun _ i _ => l.length - (intOf i).toNat)
  case atStart => exact ⟨0, 0, Nat.zero_le _, Nat.zero_le _, rfl, rfl, Nat.zero_le _, Lib.hid (Below.refl _ _)⟩
  case round =>
    obtain ⟨j, k, hj, hjm, rfl, rfl, hk, HW⟩ := hrel
    obtain ⟨wi, rfl⟩ : ∃ wi : World, wi = wr := ⟨_, rfl⟩
    by_cases hlt : j < l.length
    · have d1 : decide ((j : Int) < (l.length : Int)) = true := dct (by omega)
      obtain ⟨b, off, rfl, hbB, hcell⟩ := (HL.out.below (HW.out.mono hB)).at_ hlt
      have HOK := Lib.hid ((HL.out.ok _ (ga_mem hlt)))
      have x0 := hcell 0 _ (by omega) rfl
      have x1 := hcell 1 _ (by omega) rfl
      have x2 := hcell 2 _ (by omega) rfl
      have x3 := hcell 3 _ (by omega) rfl
      have x4 := hcell 4 _ (by omega) rfl
      have x5 := hcell 5 _ (by omega) rfl
      have x6 := hcell 6 _ (by omega) rfl
      have x7 := hcell 7 _ (by omega) rfl
      rw [Nat.add_zero] at x0
      clear hcell
      generalize ga l j = a at *
      have hi0 : (0 : Int) ≤ (j : Int) := by omega
      have hi1 : (j : Int) < (l.length : Int) := by omega
      have hi2 : (j : Int) ≤ (c : Int) := by omega
      obtain ⟨m, hm1⟩ : ∃ m : Nat, min (a.d.length : Int) 300000 = (m : Int) := ⟨min a.d.length 300000, by omega⟩
      have hm2 : m ≤ 300000 := by omega
      have r1 : IntKind.i64.wrap ((k : Int) + (m : Int)) = (k : Int) + (m : Int) := by rw [IntKind.wrap_i64]; omega
      go_upto_region 6 with fail
      by_cases ha : 20000 < k + m
      · have d2 : decide ((20000 : Int) < (k : Int) + (m : Int)) = true := dct (by omega)
        go_wp2
        go_ret
        exact ⟨j, hj, hjm, rfl, (HW.out.alloc HW.out.size _)⟩
      · have d2 : decide ((20000 : Int) < (k : Int) + (m : Int)) = false := dcf (by omega)
        by_cases hb : most ≤ j
        · have d3 : decide ((most : Int) ≤ (j : Int)) = true := dct (by omega)
          go_wp2
          go_ret
          exact ⟨j, hj, hjm, rfl, (HW.out.alloc HW.out.size _)⟩
        · have d3 : decide ((most : Int) ≤ (j : Int)) = false := dcf (by omega)
          go_wp2
          go_roundw
          case rel => exact ⟨j + 1, k + m, by omega, by omega, by go_num, by push_cast; rfl, by omega, Lib.hid (HW.out.alloc HW.out.size _)⟩
          case measure => simp [intOf]; omega
    · obtain rfl : j = l.length := by omega
      have d1 : decide ((l.length : Int) < (l.length : Int)) = false := dcf (by omega)
      go_wp2
      go_ret
      exact ⟨l.length, Nat.le_refl _, hjm, rfl, HW.out⟩
end St
end Go.Proofs.YtlljpjehalodfaaGreat

namespace Go.Proofs.YtlljpjehalodfaaGreat
open Go.RowKit
namespace St

theorem do_live (w : World) {L : LS} {n : Nat} {x : Cl} (h : At w L) (hi : PInv L.pure n) (hn : n ≤ 1000000) (hd : Dat w L.gs x.A x.c x.d) (hx : ClOk x) :
    Calls Tryz.prog 11 #[.pointer (some ⟨L.gs, 0, none⟩), x.val] w fun e w' => ∃ L' v, e = .returned v ∧ RepAt w.heap.size w' v (L.pure.step x.pure).2 ∧ StepTo w L x w' L' ∧ PInv L'.pure (n + 1) := by
  refine (do_calls w h hi.inv hn hd hx).mono ?_
  rintro e w' ⟨L', v, rfl, hr, hs⟩
  exact ⟨L', v, rfl, hr, hs, by rw [hs.pure]; exact hi.step h.srt x.pure⟩
theorem tick_live (w : World) {L : LS} {n : Nat} (h : At w L) (hi : PInv L.pure n) {k : Int} (hk : (Lit.int .i64 k).wf = true) :
    Calls Tryz.prog 7 #[.pointer (some ⟨L.gs, 0, none⟩), .int .i64 k] w fun e w' => e = .returned (.int .i64 (tickE L.pure.now k)) ∧ At w' (L.tick k) ∧ Keep L.foot w w' ∧ PInv (L.tick k).pure n := by
  have := wf_i64 hk
  refine (tick_calls w h this.1 this.2 hi.t0 hi.t1).mono ?_
  rintro e w' ⟨rfl, hA, hK⟩
  exact ⟨rfl, hA, hK, by rw [pure_tick]; exact hi.tick k⟩
theorem tick_gs (L : LS) (k : Int) : (L.tick k).gs = L.gs := by unfold LS.tick; split <;> rfl
theorem tick_foot (L : LS) (k : Int) {i : Nat} (h : (L.tick k).foot i) : L.foot i := by unfold LS.tick at h; split at h <;> exact h
/-- What a store's calls leave of what lay below it. -/
theorem StepTo.below {w w' : World} {L L' : LS} {x : Cl} {B : Nat} (h : StepTo w L x w' L') (hB : B ≤ w.heap.size) (hf : ∀ i, L.foot i → B ≤ i) : Below B w w' := h.keep.below hB hf
theorem StepTo.high {w w' : World} {L L' : LS} {x : Cl} {B : Nat} (h : StepTo w L x w' L') (hB : B ≤ w.heap.size) (hf : ∀ i, L.foot i → B ≤ i) : ∀ i, L'.foot i → B ≤ i := fun i hi => by
  rcases h.foot i hi with h | h
  · exact hf i h
  · omega
theorem empty_high (g : Nat) : ∀ i, (emptyLS g).foot i → g ≤ i := fun i hi => by
  rcases hi with h | h | h | ⟨p, hp, _⟩
  · rw [h]; show g ≤ g + 2; omega
  · rw [h]; exact Nat.le_refl _
  · rw [h]; show g ≤ g + 1; omega
  · cases hp
def keyA : ByteArray := ⟨#[97]⟩
theorem rightA : rightB keyA = true := by decide +kernel
theorem putA (g : Nat) : (emptyLS g).pure.step ⟨2, keyA, [120], 0, 0, 0, 0⟩ = ((emptyLS g).pure.made keyA [120], ⟨0, [], 1, 0, 0, [], false⟩) := by
  rw [kind_step]
  dsimp only
  rw [if_pos (.inr rfl)]
  have e : (emptyLS g).pure.putE ⟨2, keyA, [120], 0, 0, 0, 0⟩ = 0 := by
    unfold PS.putE
    rw [if_neg (by rw [rightA]; decide)]
    rfl
  unfold PS.put
  rw [if_pos e]; rfl
theorem getA (g : Nat) : (((emptyLS g).pure.made keyA [120]).step ⟨3, keyA, [], 0, 0, 0, 0⟩).2 = ⟨0, [120], 1, 0, 0, [], false⟩ := by
  rw [kind_step]
  dsimp only
  rw [if_neg (by decide), if_pos (.inl rfl)]
  rfl
theorem dat_nil (w : World) (gs : Nat) : Dat w gs none 0 [] := ⟨Nat.le_refl _, fun h => absurd h (by simp)⟩
theorem dat_const (w : World) {gs : Nat} (hg : gs < w.heap.size) : Dat (w.alloc (.cells #[.int .u8 120] 5 (1, 2))) gs (some ⟨w.heap.size, 0, none⟩) 1 [120] := by
  refine ⟨Nat.le_refl _, fun _ => ⟨w.heap.size, 0, rfl, by omega, fun j u hu => ?_⟩⟩
  have hj : j < 1 := (List.getElem?_eq_some_iff.1 hu).1
  obtain rfl : j = 0 := by omega
  have : u = .int .u8 120 := by injection hu with hu; rw [← hu]; rfl
  subst this
  unfold World.cell?
  rw [show (⟨w.heap.size, 0 + 0, none⟩ : Addr).block = w.heap.size from rfl, heap_alloc_new]
  rfl
theorem w0_ : (Lit.int .i64 0).wf = true := wfI (by decide) (by decide)
set_option maxRecDepth 100000 in
set_option maxHeartbeats 3200000 in
theorem lives_calls (w : World) : Calls Tryz.prog 5 #[] w fun e w' => e = .returned (.bool true) ∧ Below w.heap.size w w' := by
  have kc := fun (w : World) (C : Array Value) (n c : Nat) => Lib.run_convert_bytes_const (P := Tryz.prog) w 32 5 C n c Tryz.underlying32 Tryz.underlying5
  go_enter Tryz.func5, Tryz.ntmps5
  go_wp2_with fail
  refine (new_calls w).mono ?_
  rintro e w1 ⟨rfl, hA1, hb1⟩
  have HA1 := Lib.hid (hA1.alloc (.cells #[.int .u8 120] 5 (1, 2)))
  have HI1 := Lib.hid (pinv_empty w.heap.size 0)
  have HB1 := Lib.hid hb1
  have hle1 := hb1.size
  have HD1 := Lib.hid (dat_const w1 hA1.blk.lt)
  have HC2 := Lib.hid (do_live _ (x := ⟨2, keyA, some ⟨w1.heap.size, 0, none⟩, 1, [120], 0, 0, 0, 0⟩) HA1.out HI1.out (by omega) HD1.out ⟨by show 1 ≤ maxLen; unfold maxLen; omega, by show 1 ≤ _; omega, w0_, w0_⟩)
  have HX := Lib.hid (putA w.heap.size)
  have HG := Lib.hid (getA w.heap.size)
  clear hA1 hb1
  unfold Cl.val Cl.cells keyA at HC2
  dsimp only at HC2
  generalize hL0 : emptyLS w.heap.size = L0 at *
  have hgs0 : L0.gs = w.heap.size + 2 := by rw [← hL0]; rfl
  have hhi0 := empty_high w.heap.size
  rw [hL0] at hhi0
  have HHI0 := Lib.hid hhi0
  clear hL0 hhi0
  rw [hgs0] at HC2
  go_wp2_with fail
  refine HC2.out.mono ?_
  rintro e w2 ⟨L1, v1, rfl, hr1, hs1, hi1⟩
  have hp1 := hs1.pure
  rw [show (Cl.pure ⟨2, ⟨#[97]⟩, some ⟨w1.heap.size, 0, none⟩, 1, [120], 0, 0, 0, 0⟩) = ⟨2, keyA, [120], 0, 0, 0, 0⟩ from rfl, HX.out] at hr1 hp1
  obtain ⟨A2, c2, Al2, cl2, hv1, -, -⟩ := hr1
  dsimp only [List.length_nil] at hv1
  subst hv1
  have hle2 := hs1.keep.size
  have hz1 : (w1.alloc (.cells #[.int .u8 120] 5 (1, 2))).heap.size = w1.heap.size + 1 := by simp
  have HB2 : Hid (Below w.heap.size w w2) := Lib.hid ((HB1.out.alloc hle1 _).trans (hs1.below (by omega) HHI0.out))
  have HHI1 := Lib.hid (hs1.high (by omega) HHI0.out)
  have hgs1 : L1.gs = w.heap.size + 2 := hs1.gs.trans hgs0
  have HA2 := Lib.hid hs1.at_
  have HI2 := Lib.hid hi1
  have HP2 := Lib.hid hp1
  clear HC2 hs1 hi1 HD1 HA1 HB1
  go_upto_region 3 with fail
  have HB3 : Hid (Below w.heap.size w (w2.alloc (.cells #[.int .i64 0, .slice A2 0 c2, .int .i64 1, .int .i64 0, .int .i64 0, .slice Al2 0 cl2, .bool false] 43))) := Lib.hid (HB2.out.alloc (by omega) _)
  have HR3 := Lib.hid (Blk.new w2 43 #[.int .i64 0, .slice A2 0 c2, .int .i64 1, .int .i64 0, .int .i64 0, .slice Al2 0 cl2, .bool false])
  have HA3 := Lib.hid (HA2.out.alloc (.cells #[.int .i64 0, .slice A2 0 c2, .int .i64 1, .int .i64 0, .int .i64 0, .slice Al2 0 cl2, .bool false] 43))
  have HF3 : Hid (¬ L1.foot w2.heap.size) := Lib.hid fun h => by have := HA2.out.foot_lt h; omega
  have hz3 : (w2.alloc (.cells #[.int .i64 0, .slice A2 0 c2, .int .i64 1, .int .i64 0, .int .i64 0, .slice Al2 0 cl2, .bool false] 43)).heap.size = w2.heap.size + 1 := by simp
  generalize w2.alloc (.cells #[.int .i64 0, .slice A2 0 c2, .int .i64 1, .int .i64 0, .int .i64 0, .slice Al2 0 cl2, .bool false] 43) = w3 at *
  have hc := do_live w3 (x := ⟨3, keyA, none, 0, [], 0, 0, 0, 0⟩) HA3.out HI2.out (by omega) (dat_nil _ _) ⟨by show 1 ≤ maxLen; unfold maxLen; omega, by show 0 ≤ _; omega, w0_, w0_⟩
  rw [show (Cl.pure ⟨3, keyA, none, 0, [], 0, 0, 0, 0⟩) = ⟨3, keyA, [], 0, 0, 0, 0⟩ from rfl, HP2.out, HG.out, hgs1] at hc
  unfold Cl.val Cl.cells keyA at hc
  dsimp only [List.length_nil] at hc
  have HC3 := Lib.hid hc
  clear hc
  go_wp2_with fail
  refine HC3.out.mono ?_
  rintro e w4 ⟨L2, v2, rfl, hr2, hs2, -⟩
  obtain ⟨A4, c4, Al4, cl4, hv2, hown4, -⟩ := hr2
  dsimp only [List.length_nil, List.length_cons] at hv2 hown4
  subst hv2
  have HB4 : Hid (Below w.heap.size w w4) := Lib.hid (HB3.out.trans (hs2.below (by omega) HHI1.out))
  have HR4 := Lib.hid (hs2.keep.blk HR3.out HF3.out)
  have HBY := Lib.hid (own_bytes (l := [120]) hown4)
  have hle4 := HB4.out.size
  have hlt4 := HR4.out.lt
  clear hs2 hown4 HC3 HA3 HR3 HB3
  go_upto_region 4 with fail
  have HR5 := Lib.hid (HR4.out.alloc (.cells #[.int .i64 0, .slice A4 1 c4, .int .i64 1, .int .i64 0, .int .i64 0, .slice Al4 0 cl4, .bool false] 43))
  have HB5 : Hid (Below w.heap.size w (w4.alloc (.cells #[.int .i64 0, .slice A4 1 c4, .int .i64 1, .int .i64 0, .int .i64 0, .slice Al4 0 cl4, .bool false] 43))) := Lib.hid (HB4.out.alloc hle4 _)
  have hcv := (HBY.out.to ((Below.refl _ _).alloc (Nat.le_refl _) (.cells #[.int .i64 0, .slice A4 1 c4, .int .i64 1, .int .i64 0, .int .i64 0, .slice Al4 0 cl4, .bool false] 43)) (Nat.le_refl _)).conv Tryz.prog c4 32 5 9 Tryz.underlying32 Tryz.underlying5 Tryz.underlying9
  have hcv' : (convert 32 9 (.slice A4 1 c4)).run Tryz.prog (w4.alloc (.cells #[.int .i64 0, .slice A4 1 c4, .int .i64 1, .int .i64 0, .int .i64 0, .slice Al4 0 cl4, .bool false] 43)) = .ok (.string ⟨#[120]⟩) (w4.alloc (.cells #[.int .i64 0, .slice A4 1 c4, .int .i64 1, .int .i64 0, .int .i64 0, .slice Al4 0 cl4, .bool false] 43)) := hcv
  have HN5 := Lib.hid (Blk.new w4 43 #[.int .i64 0, .slice A4 1 c4, .int .i64 1, .int .i64 0, .int .i64 0, .slice Al4 0 cl4, .bool false])
  clear hcv HR4 HBY HB4 hlt4
  generalize w4.alloc (.cells #[.int .i64 0, .slice A4 1 c4, .int .i64 1, .int .i64 0, .int .i64 0, .slice Al4 0 cl4, .bool false] 43) = w5 at *
  have z0 : w5.cell? ⟨w2.heap.size, 0, none⟩ = some (.int .i64 0) := HR5.out.cell 0
  have z2 : w5.cell? ⟨w2.heap.size, 2, none⟩ = some (.int .i64 1) := HR5.out.cell 2
  have z1 : w5.cell? ⟨w4.heap.size, 1, none⟩ = some (.slice A4 1 c4) := HN5.out.cell 1
  go_wp2
  go_ret
  exact ⟨rfl, HB5.out⟩
end St
end Go.Proofs.YtlljpjehalodfaaGreat

namespace Go.Proofs.YtlljpjehalodfaaGreat
open Go.RowKit
namespace St

/-- A store that a statement made in world w, after n calls. -/
structure Liv (w wr : World) (g : Nat) (L : LS) (n : Nat) : Prop where
  at_ : At wr L
  inv : PInv L.pure n
  gs : L.gs = g
  high : ∀ i, L.foot i → w.heap.size ≤ i
  below : Below w.heap.size w wr
section
variable {w wr wx : World} {g n : Nat} {L L' : LS} {x : Cl}
theorem Liv.start {w1 : World} (h : At w1 (emptyLS w.heap.size)) (hb : Below w.heap.size w w1) : Liv w w1 (w.heap.size + 2) (emptyLS w.heap.size) 0 := ⟨h, pinv_empty _ _, rfl, empty_high _, hb⟩
theorem Liv.size (h : Liv w wr g L n) : w.heap.size ≤ wr.heap.size := h.below.size
theorem Liv.lt (h : Liv w wr g L n) : g < wr.heap.size := by have := h.at_.blk.lt; rw [h.gs] at this; exact this
theorem Liv.le (h : Liv w wr g L n) : w.heap.size ≤ g := by have := h.high L.gs (.inl rfl); rw [h.gs] at this; exact this
theorem Liv.on (h : Liv w wr g L n) (hb : Below wr.heap.size wr wx) : Liv w wx g L n := ⟨h.at_.below hb, h.inv, h.gs, h.high, h.below.trans (hb.mono h.size)⟩
theorem Liv.step (h : Liv w wr g L n) (hs : StepTo wr L x wx L') (hi : PInv L'.pure (n + 1)) : Liv w wx g L' (n + 1) := ⟨hs.at_, hi, hs.gs.trans h.gs, hs.high h.size h.high, h.below.trans (hs.below h.size h.high)⟩
theorem Liv.tick (h : Liv w wr g L n) {k : Int} (hA : At wx (L.tick k)) (hK : Keep L.foot wr wx) (hi : PInv (L.tick k).pure n) : Liv w wx g (L.tick k) n := ⟨hA, hi, (tick_gs L k).trans h.gs, fun i hf => h.high i (tick_foot L k hf), h.below.trans (hK.below h.size h.high)⟩
theorem Liv.keep (h : Liv w wr g L n) (hA : At wx L) (hK : Keep L.foot wr wx) : Liv w wx g L n := ⟨hA, h.inv, h.gs, h.high, h.below.trans (hK.below h.size h.high)⟩
/-- What was made behind the store is not the store's. -/
theorem Liv.not_foot (h : Liv w wr g L n) {i : Nat} (hi : wr.heap.size ≤ i) : ¬ L.foot i := fun hf => by have := h.at_.foot_lt hf; omega
end
theorem Ac.ok.dat {a : Ac} {W : World} {B gs : Nat} (h : a.ok W B) (hg : B ≤ gs) : Dat W gs a.A a.c a.d := by
  refine ⟨h.dc, fun hd => ?_⟩
  obtain ⟨b, off, e, hb, hc⟩ := h.bytes.2.2 hd
  exact ⟨b, off, e, by omega, hc⟩
theorem Ac.data_le {a : Ac} {W : World} {B : Nat} (h : a.ok W B) : a.data.length ≤ 140737488355328 := by
  unfold Ac.data
  have h1 := h.dc
  have h2 := h.cm
  split
  · rw [List.length_replicate]; omega
  · omega
theorem Ac.clOk {a : Ac} {W : World} {B : Nat} (h : a.ok W B) (A : Option Addr) (c : Nat) : ClOk (a.cl A c) := ⟨by have := h.key; show a.key.size ≤ maxLen; unfold maxLen; omega, Ac.data_le h, h.n, h.id⟩
/-- An object got by its key alone. -/
def clGet (k : ByteArray) : Cl := ⟨3, k, none, 0, [], 0, 0, 0, 0⟩
def rGet (o : PO) : PR := ⟨0, o.d, o.ver, o.born, 0, [], false⟩
theorem step_get {s : PS} {k : ByteArray} {o : PO} (h : mget s.objs k = some o) : s.step (clGet k).pure = (s, rGet o) := by
  have h' : mget s.objs (clGet k).pure.key = some o := h
  have e : s.getE (clGet k).pure = 0 := by
    unfold PS.getE
    exact (if_neg (by rw [h']; intro hh; cases hh)).trans (if_neg fun hh => absurd (show (3 : Int) = 4 from hh.1) (by decide))
  have e2 : s.getD (clGet k).pure = o.d := by
    unfold PS.getD
    refine (if_neg (fun hh => absurd (show (3 : Int) = 4 from hh) (by decide))).trans ?_
    rw [h']; rfl
  rw [kind_step]
  refine (if_neg (by show ¬ ((3 : Int) = 1 ∨ (3 : Int) = 2); omega)).trans ((if_pos (.inl rfl)).trans ?_)
  unfold PS.get
  rw [if_pos e, e2, h']; rfl
theorem get_live (w : World) {L : LS} {n : Nat} (h : At w L) (hi : PInv L.pure n) (hn : n ≤ 1000000) {k : ByteArray} (hk : k.size ≤ maxLen) {o : PO} (ho : mget L.pure.objs k = some o) :
    Calls Tryz.prog 11 #[.pointer (some ⟨L.gs, 0, none⟩), .agg #[.int .i64 3, .string k, .slice none 0 0, .int .i64 0, .int .i64 0, .int .i64 0, .int .i64 0]] w fun e w' => ∃ A c Al cl, e = .returned (.agg #[.int .i64 0, .slice A o.d.length c, .int .i64 o.ver, .int .i64 o.born, .int .i64 0, .slice Al 0 cl, .bool false]) ∧ w'.ownsRow w.heap.size 5 1 (.slice A o.d.length c) o.d.length (o.d.map byteV) ∧ At w' L ∧ Below w.heap.size w w' := by
  refine (do_live w (x := clGet k) h hi hn (dat_nil _ _) ⟨hk, by show 0 ≤ _; omega, w0_, w0_⟩).mono ?_
  rintro e w' ⟨L', v, rfl, hr, hs, -⟩
  have e := hs.same (.inl rfl)
  subst e
  rw [step_get ho] at hr
  obtain ⟨A, c, Al, cl, hv, h1, -⟩ := hr
  exact ⟨A, c, Al, cl, by rw [hv]; rfl, h1, hs.at_, hs.quiet (.inl rfl)⟩
theorem few60_calls (w : World) {B c : Nat} {m : Int} (most : Nat) (hm0 : m = (most : Int)) {A : Option Addr} {l : List Ac} (h : Acts w B A l) (hB : B ≤ w.heap.size) (hc : l.length ≤ c) (hl : l.length ≤ 4398046511104) (hm : 0 < most) :
    Calls Tryz.prog 6 #[.slice A l.length c, .int .i64 m] w fun e w' => ∃ k, k ≤ l.length ∧ k ≤ most ∧ e = .returned (.slice A k c) ∧ Below w.heap.size w w' := by
  subst hm0
  exact few_calls w h hB hc hl hm
end St
end Go.Proofs.YtlljpjehalodfaaGreat
