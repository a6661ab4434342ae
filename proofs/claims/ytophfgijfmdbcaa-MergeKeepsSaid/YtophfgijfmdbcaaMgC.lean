/- Lists of rows; the order of heads; a new heap; Pop of an empty one (chapter 16). -/
import Derived.Test.YtophfgijfmdbcaaProg
import Derived.Test.YtophfgijfmdbcaaMgA
import Derived.Test.YtophfgijfmdbcaaHrC
namespace Go.Proofs.Ytophfgijfmdbcaa.Mg
open Go.RowKit Go.Proofs.Ytophfgijfmdbcaa Go.Proofs.Ytophfgijfmdbcaa.So Go.Proofs.Ytophfgijfmdbcaa.Hp Go.Proofs.Ytophfgijfmdbcaa.Hr
open Go.ChangeShapes Go.WideShapes

/-- A list of rows, and where it lies. -/
structure Lst where
  l : List Rw
  A : Option Addr
  cp : Nat
instance : Inhabited Lst := ⟨⟨[], none, 0⟩⟩
def Lst.v (x : Lst) : Value := .slice x.A x.l.length x.cp
structure Lst.ok (w : World) (B : Nat) (x : Lst) : Prop where
  rows : Rows w B x.A x.l
  cap : x.l.length ≤ x.cp
  len : x.l.length ≤ 4398046511104
theorem Lst.ok.below {w w' : World} {B : Nat} {x : Lst} (h : x.ok w B) (hb : Below B w w') : x.ok w' B := ⟨h.rows.below hb, h.cap, h.len⟩
theorem Lst.ok.more {w : World} {B B' : Nat} {x : Lst} (h : x.ok w B) (hb : B ≤ B') : x.ok w B' := ⟨h.rows.more hb, h.cap, h.len⟩
/-- A slice of lists of rows reads. -/
structure Lists (w : World) (B : Nat) (A : Option Addr) (L : List Lst) : Prop where
  reads : Reads w B 1 A L.length (L.map Lst.v)
  each : ∀ x ∈ L, x.ok w B
theorem Lists.below {w w' : World} {B : Nat} {A : Option Addr} {L : List Lst} (h : Lists w B A L) (hb : Below B w w') : Lists w' B A L := ⟨h.reads.below hb, fun x hx => (h.each x hx).below hb⟩
theorem Lists.more {w : World} {B B' : Nat} {A : Option Addr} {L : List Lst} (h : Lists w B A L) (hb : B ≤ B') : Lists w B' A L := ⟨h.reads.more hb, fun x hx => (h.each x hx).more hb⟩
def lt_ (L : List Lst) (i : Nat) : Lst := L.getD i default
theorem lt_eq {L : List Lst} {i : Nat} (h : i < L.length) : L[i] = lt_ L i := by simp [lt_, List.getD, List.getElem?_eq_getElem h]
theorem lt_mem {L : List Lst} {i : Nat} (h : i < L.length) : lt_ L i ∈ L := by rw [← lt_eq h]; exact List.getElem_mem _
theorem Lists.at_ {w : World} {B : Nat} {A : Option Addr} {L : List Lst} (h : Lists w B A L) (hp : 0 < L.length) : ∃ b off, A = some ⟨b, off, none⟩ ∧ b < B ∧ ∀ i, i < L.length → w.cell? ⟨b, off + i, none⟩ = some (.slice (lt_ L i).A (lt_ L i).l.length (lt_ L i).cp) := by
  obtain ⟨b, off, e, hb, hc⟩ := h.reads.2 hp
  refine ⟨b, off, e, hb, fun i hi => hc i _ ?_⟩
  rw [List.getElem?_map, List.getElem?_eq_getElem hi, lt_eq hi]; rfl
theorem Lists.cell_ {w : World} {B : Nat} {A : Option Addr} {L : List Lst} (h : Lists w B A L) {b off : Nat} (e : A = some ⟨b, off, none⟩) {i : Nat} (hi : i < L.length) : w.cell? ⟨b, off + i, none⟩ = some (.slice (lt_ L i).A (lt_ L i).l.length (lt_ L i).cp) := by
  obtain ⟨b', off', e', -, hc⟩ := h.at_ (by omega)
  rw [e] at e'
  injection e' with e'
  injection e' with e1 e2
  subst e1 e2
  exact hc i hi

set_option maxRecDepth 100000 in
theorem part_rows {H : Type} {enc : TypeId × Value → H} {W : World} {v : Value} {d : DataW H} (h : Part enc Try.prog W 47 v d) :
    ∃ (A : Option Addr) (c : Nat) (l : List Rw), v = .slice A l.length c ∧ l.length ≤ c ∧ l.length ≤ 4398046511104 ∧ Rows W W.heap.size A l := by
  obtain ⟨A, c, l, e, hl, _, hby, hr, hg⟩ := h.rows Try.underlying47 (size := 9) (by kernel_rfl) (by decide) (Sr.nine Rw.c) (fun x => x.ok W W.heap.size) (fun cs y h1 h2 => part_row h1 h2) (fun _ => rfl)
  have hbz : Try.prog.bytesOf 58 = 96 := by kernel_rfl
  rw [hbz] at hby
  exact ⟨A, c, l, e, hl, by omega, hr, hg⟩
theorem part_lst {H : Type} {enc : TypeId × Value → H} {W : World} {cs : List Value} {d : DataW H} (hl : cs.length = 1) (h : PartC enc Try.prog W 47 cs d) : ∃ x : Lst, x.ok W W.heap.size ∧ [x.v] = cs := by
  match cs, hl with
  | [c0], _ =>
    obtain ⟨A, c, l, rfl, hc, hn, hr⟩ := part_rows h.one
    exact ⟨⟨l, A, c⟩, ⟨hr, hc, hn⟩, rfl⟩
set_option maxRecDepth 100000 in
theorem arg_lists {H : Type} {enc : TypeId × Value → H} {W : World} {base : Nat} {v : Value} {d : DataW H} {p : List MemPlace} (h : Arg enc Try.prog W base 45 v d p) :
    ∃ (A : Option Addr) (c : Nat) (L : List Lst), v = .slice A L.length c ∧ L.length ≤ c ∧ L.length ≤ 8796093022208 ∧ Lists W W.heap.size A L := by
  obtain ⟨A0, n0, c0, rfl⟩ := okWide_slice Try.underlying45 h.ok
  obtain ⟨A, c, l, e, hl, _, hby, hr, hg⟩ := (h.part rfl).rows Try.underlying45 (size := 1) (by kernel_rfl) (by decide) (fun x : Lst => [x.v]) (fun x => x.ok W W.heap.size) (fun cs y h1 h2 => part_lst h1 h2) (fun _ => rfl)
  have hbz : Try.prog.bytesOf 47 = 24 := by kernel_rfl
  rw [hbz] at hby
  exact ⟨A, c, l, e, hl, by omega, by rw [List.map_eq_flatMap]; exact hr, hg⟩

/-- The order's function, in a variable of its own. -/
def KC (k0 : Nat) (W : World) : Prop := k0 < W.heap.size ∧ W.cell? ⟨k0, 0, none⟩ = some (.func (.func 39) #[] #[])
set_option maxRecDepth 100000 in
set_option maxHeartbeats 1600000 in
theorem clos_calls (w : World) {k0 : Nat} (x y : Hd) (hk : KC k0 w) :
    Calls Try.prog 50 #[vH x, vH y, .pointer (some ⟨k0, 0, none⟩)] w fun e w' => e = .returned (.bool (ltH x y)) ∧ Below w.heap.size w w' := by
  obtain ⟨hlt, hc⟩ := hk
  have HC := Lib.hid fun W => cmpRw_calls W x.x y.x
  have HB2 : Hid (Below w.heap.size w ((w.alloc (.cells #[.int .i64 x.x.kind, .int .i64 x.x.time, .slice x.x.A x.x.labs.length x.x.cp, .string x.x.text, .int .i64 x.x.value, .bool x.x.null, .int .i64 x.x.maker, .int .i64 x.x.seq, .int .i64 x.x.place, .slice x.A x.rest.length x.cp] 86)).alloc (.cells #[.int .i64 y.x.kind, .int .i64 y.x.time, .slice y.x.A y.x.labs.length y.x.cp, .string y.x.text, .int .i64 y.x.value, .bool y.x.null, .int .i64 y.x.maker, .int .i64 y.x.seq, .int .i64 y.x.place, .slice y.A y.rest.length y.cp] 86))) := Lib.hid (((Below.refl _ _).alloc (Nat.le_refl _) _).alloc (by simp) _)
  have hc2 : ((w.alloc (.cells #[.int .i64 x.x.kind, .int .i64 x.x.time, .slice x.x.A x.x.labs.length x.x.cp, .string x.x.text, .int .i64 x.x.value, .bool x.x.null, .int .i64 x.x.maker, .int .i64 x.x.seq, .int .i64 x.x.place, .slice x.A x.rest.length x.cp] 86)).alloc (.cells #[.int .i64 y.x.kind, .int .i64 y.x.time, .slice y.x.A y.x.labs.length y.x.cp, .string y.x.text, .int .i64 y.x.value, .bool y.x.null, .int .i64 y.x.maker, .int .i64 y.x.seq, .int .i64 y.x.place, .slice y.A y.rest.length y.cp] 86)).cell? ⟨k0, 0, none⟩ = some (.func (.func 39) #[] #[]) := (HB2.out.cell (p := ⟨k0, 0, none⟩) hlt).trans hc
  have eg : ∀ args w, (callFunc 39 args).run Try.prog w = .ok (.enter 39 args) w := enters_of Try.func39 (by kernel_rfl) rfl
  have HL : Hid (decide (cfR x.x y.x < 0) = ltH x y) := Lib.hid rfl
  unfold rwA at HC
  unfold vH
  generalize ltH x y = r at *
  generalize cfR x.x y.x = z at *
  clear hc
  go_enter Try.func50, Try.ntmps50
  go_wp2_with (go_at_fn 39; refine (HC.out _).mono ?_; rintro e w1 ⟨rfl, hb1⟩)
  go_ret
  exact ⟨by rw [← HL.out]; rfl, HB2.out.trans (hb1.mono (by simp; omega))⟩
theorem asks_of {k0 B : Nat} (hB : k0 < B) : Asks (KC k0) B 50 #[.pointer (some ⟨k0, 0, none⟩)] ltH where
  keep W W' h hb := ⟨Nat.lt_of_lt_of_le h.1 hb.size, (hb.cell (p := ⟨k0, 0, none⟩) hB).trans h.2⟩
  call x y W h := clos_calls W x y h
  enter := enters_of Try.func50 (by kernel_rfl) rfl
abbrev FVc (k0 : Nat) : Value := .func (.func 50) #[] #[.pointer (some ⟨k0, 0, none⟩)]
theorem new_calls (w : World) (k0 : Nat) : Calls Try.prog 49 #[FVc k0] w fun e w' => e = .returned (.pointer (some ⟨w.heap.size, 0, none⟩)) ∧ w' = w.alloc (.cells #[.slice none 0 0, FVc k0] 100) := by
  unfold FVc
  go_enter Try.func49, Try.ntmps49
  go_wp2
  go_ret
  exact ⟨rfl, rfl⟩
theorem new_at (w : World) (k0 : Nat) : HI (w.alloc (.cells #[.slice none 0 0, FVc k0] 100)) w.heap.size w.heap.size (FVc k0) none 0 [] :=
  ⟨Blk.new _ _ _, Nat.le_refl _, World.ownsRow_nil _ _ _ _⟩
set_option maxRecDepth 100000 in
set_option maxHeartbeats 1600000 in
theorem pop_empty (w : World) {B gh c : Nat} {fv : Value} {A : Option Addr} (h : HI w B gh fv A c []) : Calls Try.prog 52 #[.pointer (some ⟨gh, 0, none⟩)] w fun e w' => e = .returned (.tuple #[vH default, .bool false]) ∧ Below w.heap.size w w' := by
  have y0 : w.cell? ⟨gh, 0, none⟩ = some (.slice A 0 c) := (h.blk.cell 0).trans rfl
  have hlt := h.blk.lt
  clear h
  go_enter Try.func52, Try.ntmps52
  go_wp2
  refine bodyPost_ret (results_hd rfl _ _ w.heap.size _ _ _ _ rfl rfl (Blk.new w _ _) Try.underlying86 rfl (by kernel_rfl)) rfl ?_
  exact ⟨rfl, (Below.refl _ w).alloc (Nat.le_refl _) _⟩
end Go.Proofs.Ytophfgijfmdbcaa.Mg
