/- The document's store in memory (chapter 14). The document's store: where things stand, sizes, keys (chapter 14). The document's store: its size, keys, the clock (chapter 14). The document's store: what a key is (chapter 14). -/
import Derived.Test.YtlljpjehalodfaaGreatProg
import Derived.Test.YtlljpjehalodfaaGreatStT
import Derived.Test.YtlljpjehalodfaaGreatPartC
import Derived.Test.YtlljpjehalodfaaGreatStF

namespace Go.Proofs.YtlljpjehalodfaaGreat
open Go.RowKit
namespace Rf
open St

structure Ro where
  key : ByteArray
  A : Option Addr
  c : Nat
  d : Bs
  ver : Int
  born : Int
structure Rp where
  n : Int
  A : Option Addr
  c : Nat
  d : Bs
structure Ru where
  id : Int
  born : Int
  key : ByteArray
  PA : Option Addr
  pc : Nat
  parts : List Rp
structure RS where
  g : Nat
  AO : Option Addr
  cO : Nat
  AU : Option Addr
  cU : Nat
  objs : List Ro
  ups : List Ru
  ver : Int
  id : Int
  now : Int
def Ro.cells (x : Ro) : List Value := [.string x.key, .slice x.A x.d.length x.c, .int .i64 x.ver, .int .i64 x.born]
def Rp.cells (x : Rp) : List Value := [.int .i64 x.n, .slice x.A x.d.length x.c]
def Ru.cells (x : Ru) : List Value := [.int .i64 x.id, .int .i64 x.born, .string x.key, .slice x.PA x.parts.length x.pc]
def oCells (l : List Ro) : List Value := l.flatMap Ro.cells
def uCells (l : List Ru) : List Value := l.flatMap Ru.cells
def pCells (l : List Rp) : List Value := l.flatMap Rp.cells
def RS.oV (R : RS) : Value := .slice R.AO R.objs.length R.cO
def RS.uV (R : RS) : Value := .slice R.AU R.ups.length R.cU
def RS.cells (R : RS) : Array Value := #[.slice R.AO R.objs.length R.cO, .slice R.AU R.ups.length R.cU, .int .i64 R.ver, .int .i64 R.id, .int .i64 R.now]
def RS.foot (R : RS) (i : Nat) : Prop := i = R.g ∨ R.oV.ownBlock = some i ∨ R.uV.ownBlock = some i
def Out (R : RS) (A : Option Addr) (n : Nat) : Prop := 0 < n → ∀ a, A = some a → ¬ R.foot a.block
/-- Bytes that a store has. -/
structure RD (w : World) (R : RS) (A : Option Addr) (c : Nat) (d : Bs) : Prop where
  by_ : Bytes w w.heap.size A d.length d
  len : d.length ≤ c
  cm : c ≤ maxLen
  out : Out R A d.length
structure RAt (w : World) (base : Nat) (R : RS) : Prop where
  blk : Blk w R.g 29 R.cells
  ro : w.ownsRow base 68 4 R.oV R.objs.length (oCells R.objs)
  ru : w.ownsRow base 74 4 R.uV R.ups.length (uCells R.ups)
  gb : R.g < base
  bw : base ≤ w.heap.size
  ou : ∀ x, R.oV.ownBlock = some x → R.uV.ownBlock ≠ some x
  od : ∀ o ∈ R.objs, RD w R o.A o.c o.d
  up : ∀ u ∈ R.ups, Reads w w.heap.size 2 u.PA u.parts.length (pCells u.parts) ∧ u.parts.length ≤ u.pc ∧ u.pc ≤ maxLen ∧ Out R u.PA u.parts.length
  ud : ∀ u ∈ R.ups, ∀ p ∈ u.parts, RD w R p.A p.c p.d
theorem Tryz.infoO : (Tryz.prog.info? 68).map (fun i => (i.zero, i.size, i.bytes)) = some (some (.agg #[.string ⟨#[]⟩, .slice none 0 0, .int .i64 0, .int .i64 0]), 4, 56) := by kernel_rfl
theorem Tryz.infoU : (Tryz.prog.info? 74).map (fun i => (i.zero, i.size, i.bytes)) = some (some (.agg #[.int .i64 0, .int .i64 0, .string ⟨#[]⟩, .slice none 0 0]), 4, 56) := by kernel_rfl
theorem Tryz.infoP : (Tryz.prog.info? 90).map (fun i => (i.zero, i.size, i.bytes)) = some (some (.agg #[.int .i64 0, .slice none 0 0]), 2, 32) := by kernel_rfl
theorem o_one (l : List Ro) : ∀ u ∈ oCells l, u.oneCell' = true := by
  intro u hu
  obtain ⟨x, -, hx⟩ := List.mem_flatMap.1 hu
  unfold Ro.cells at hx
  simp at hx
  rcases hx with rfl | rfl | rfl | rfl <;> rfl
theorem u_one (l : List Ru) : ∀ u ∈ uCells l, u.oneCell' = true := by
  intro u hu
  obtain ⟨x, -, hx⟩ := List.mem_flatMap.1 hu
  unfold Ru.cells at hx
  simp at hx
  rcases hx with rfl | rfl | rfl | rfl <;> rfl
theorem p_one (l : List Rp) : ∀ u ∈ pCells l, u.oneCell' = true := by
  intro u hu
  obtain ⟨x, -, hx⟩ := List.mem_flatMap.1 hu
  unfold Rp.cells at hx
  simp at hx
  rcases hx with rfl | rfl <;> rfl
theorem flat4_take {α : Type} {f : α → List Value} {s : Nat} (hf : ∀ x, (f x).length = s) : ∀ (l : List α) (n : Nat), (l.flatMap f).take (n * s) = (l.take n).flatMap f
  | [], n => by simp
  | x :: r, 0 => by simp
  | x :: r, n + 1 => by
    rw [List.flatMap_cons, List.take_succ_cons, List.flatMap_cons, ← flat4_take hf r n, show (n + 1) * s = (f x).length + n * s by rw [hf]; rw [Nat.add_mul]; omega, List.take_length_add_append]
theorem flat4_drop {α : Type} {f : α → List Value} {s : Nat} (hf : ∀ x, (f x).length = s) : ∀ (l : List α) (n : Nat), (l.flatMap f).drop (n * s) = (l.drop n).flatMap f
  | [], n => by simp
  | x :: r, 0 => by simp
  | x :: r, n + 1 => by
    rw [List.flatMap_cons, List.drop_succ_cons, ← flat4_drop hf r n, show (n + 1) * s = (f x).length + n * s by rw [hf]; rw [Nat.add_mul]; omega, List.drop_length_add_append]
theorem flat4_set {α : Type} {f : α → List Value} (l : List α) {n : Nat} (hn : n < l.length) (y : α) : (l.set n y).flatMap f = (l.take n).flatMap f ++ f y ++ (l.drop (n + 1)).flatMap f := by
  rw [List.set_eq_take_append_cons_drop, if_pos hn, List.flatMap_append, List.flatMap_cons, List.append_assoc]
section
variable {w w' : World} {base : Nat} {R : RS}
theorem RD.below {A : Option Addr} {c : Nat} {d : Bs} (h : RD w R A c d) (hb : Below w.heap.size w w') : RD w' R A c d := ⟨(h.by_.below hb).more hb.size, h.len, h.cm, h.out⟩
theorem RAt.below (h : RAt w base R) (hb : Below w.heap.size w w') : RAt w' base R :=
  { h with
    blk := h.blk.below hb h.blk.lt
    ro := own_below h.ro hb
    ru := own_below h.ru hb
    bw := Nat.le_trans h.bw hb.size
    od := fun o ho => (h.od o ho).below hb
    up := fun u hu => ⟨((h.up u hu).1.below hb).more hb.size, (h.up u hu).2⟩
    ud := fun u hu p hp => (h.ud u hu p hp).below hb }
theorem RAt.drewN (h : RAt w base R) (n : Nat) : RAt (w.drewN n) base R := h.below (below_drewN_ (Below.refl _ _) n)
theorem RAt.foot_lt (h : RAt w base R) {i : Nat} (hi : R.foot i) : i < w.heap.size := by
  rcases hi with rfl | hi | hi
  · exact h.blk.lt
  · exact (h.ro.lt i hi).2
  · exact (h.ru.lt i hi).2
theorem RAt.o_reads (h : RAt w base R) : Reads w w.heap.size 4 R.AO R.objs.length (oCells R.objs) := Reads.of_own h.ro
theorem RAt.u_reads (h : RAt w base R) : Reads w w.heap.size 4 R.AU R.ups.length (uCells R.ups) := Reads.of_own h.ru
end
def ro0 : Ro := ⟨⟨#[]⟩, none, 0, [], 0, 0⟩
def ru0 : Ru := ⟨0, 0, ⟨#[]⟩, none, 0, []⟩
def rp0 : Rp := ⟨0, none, 0, []⟩
def go (l : List Ro) (i : Nat) : Ro := l.getD i ro0
def gu (l : List Ru) (i : Nat) : Ru := l.getD i ru0
def gp (l : List Rp) (i : Nat) : Rp := l.getD i rp0
theorem go_eq {l : List Ro} {i : Nat} (h : i < l.length) : l[i] = go l i := by simp [go, List.getD, List.getElem?_eq_getElem h]
theorem gu_eq {l : List Ru} {i : Nat} (h : i < l.length) : l[i] = gu l i := by simp [gu, List.getD, List.getElem?_eq_getElem h]
theorem gp_eq {l : List Rp} {i : Nat} (h : i < l.length) : l[i] = gp l i := by simp [gp, List.getD, List.getElem?_eq_getElem h]
theorem go_mem {l : List Ro} {i : Nat} (h : i < l.length) : go l i ∈ l := by rw [← go_eq h]; exact List.getElem_mem h
theorem gu_mem {l : List Ru} {i : Nat} (h : i < l.length) : gu l i ∈ l := by rw [← gu_eq h]; exact List.getElem_mem h
theorem gp_mem {l : List Rp} {i : Nat} (h : i < l.length) : gp l i ∈ l := by rw [← gp_eq h]; exact List.getElem_mem h
section
variable {w : World} {B : Nat} {A : Option Addr}
theorem o_at {l : List Ro} (h : Reads w B 4 A l.length (oCells l)) {i : Nat} (hi : i < l.length) : ∃ b off, A = some ⟨b, off, none⟩ ∧ b < B ∧ ∀ j u, j < 4 → ((go l i).cells)[j]? = some u → w.cell? ⟨b, off + i * 4 + j, none⟩ = some u := by
  obtain ⟨b, off, e, hb, hc⟩ := h.2 (by omega)
  refine ⟨b, off, e, hb, fun j u hj hu => ?_⟩
  rw [Nat.add_assoc]
  refine hc _ _ ?_
  unfold oCells
  rw [flatMap_get (size := 4) (fun _ => rfl) l i hi j hj, go_eq hi, hu]
theorem u_at {l : List Ru} (h : Reads w B 4 A l.length (uCells l)) {i : Nat} (hi : i < l.length) : ∃ b off, A = some ⟨b, off, none⟩ ∧ b < B ∧ ∀ j u, j < 4 → ((gu l i).cells)[j]? = some u → w.cell? ⟨b, off + i * 4 + j, none⟩ = some u := by
  obtain ⟨b, off, e, hb, hc⟩ := h.2 (by omega)
  refine ⟨b, off, e, hb, fun j u hj hu => ?_⟩
  rw [Nat.add_assoc]
  refine hc _ _ ?_
  unfold uCells
  rw [flatMap_get (size := 4) (fun _ => rfl) l i hi j hj, gu_eq hi, hu]
theorem p_at {l : List Rp} (h : Reads w B 2 A l.length (pCells l)) {i : Nat} (hi : i < l.length) : ∃ b off, A = some ⟨b, off, none⟩ ∧ b < B ∧ ∀ j u, j < 2 → ((gp l i).cells)[j]? = some u → w.cell? ⟨b, off + i * 2 + j, none⟩ = some u := by
  obtain ⟨b, off, e, hb, hc⟩ := h.2 (by omega)
  refine ⟨b, off, e, hb, fun j u hj hu => ?_⟩
  rw [Nat.add_assoc]
  refine hc _ _ ?_
  unfold pCells
  rw [flatMap_get (size := 2) (fun _ => rfl) l i hi j hj, gp_eq hi, hu]
end
end Rf
end Go.Proofs.YtlljpjehalodfaaGreat

namespace Go.Proofs.YtlljpjehalodfaaGreat
open Go.RowKit
namespace Rf
open St

/-- Where the first thing stands that is asked for; -1: nowhere. -/
def idxF {α : Type} (p : α → Bool) : List α → Nat → Int
  | [], _ => -1
  | a :: r, k => if p a = true then (k : Int) else idxF p r (k + 1)
theorem idxF_hit {α : Type} {p : α → Bool} : ∀ {l : List α} {k i : Nat} (hi : i < l.length), (∀ j (hj : j < i), p (l[j]'(by omega)) = false) → p l[i] = true → idxF p l k = ((k + i : Nat) : Int)
  | a :: r, k, 0, _, _, h => by
    have h' : p a = true := h
    unfold idxF
    rw [if_pos h', Nat.add_zero]
  | a :: r, k, i + 1, hi, hn, h => by
    unfold idxF
    rw [if_neg (by have := hn 0 (by omega); rw [List.getElem_cons_zero] at this; rw [this]; decide)]
    rw [idxF_hit (i := i) (by simpa using hi) (fun j hj => by have := hn (j + 1) (by omega); rwa [List.getElem_cons_succ] at this) h]
    omega
theorem idxF_miss {α : Type} {p : α → Bool} : ∀ {l : List α} {k : Nat}, (∀ x ∈ l, p x = false) → idxF p l k = -1
  | [], _, _ => rfl
  | a :: r, k, h => by
    unfold idxF
    rw [if_neg (by rw [h a List.mem_cons_self]; decide), idxF_miss fun x hx => h x (List.mem_cons_of_mem _ hx)]
def keyIs (k : ByteArray) (o : Ro) : Bool := o.key.toList == k.toList
def idIs (n : Int) (u : Ru) : Bool := u.id == n
def RS.idxO (R : RS) (k : ByteArray) : Int := idxF (keyIs k) R.objs 0
def RS.idxU (R : RS) (n : Int) : Int := idxF (idIs n) R.ups 0
set_option maxRecDepth 100000 in
theorem at_calls (w : World) {base : Nat} {R : RS} (h : RAt w base R) (hn : R.objs.length ≤ 1000000) (k : ByteArray) :
    Calls Tryz.prog 23 #[.pointer (some ⟨R.g, 0, none⟩), .string k] w fun e w' => e = .returned (.int .i64 (R.idxO k)) ∧ w = w' := by
  have z0 : w.cell? ⟨R.g, 0, none⟩ = some (.slice R.AO R.objs.length R.cO) := h.blk.cell 0
  have HR := Lib.hid h.o_reads
  clear h
  go_enter Tryz.func23, Tryz.ntmps23
  go_wp2
  go_loop [11] (fun i => ∃ j : Nat, j ≤ R.objs.length ∧ i = .int .i64 (j : Int) ∧ Hid (∀ q (hq : q < j) (hl : q < R.objs.length), keyIs k R.objs[q] = false)) (fun i => R.objs.length - (intOf i).toNat)
  case atStart => exact ⟨0, Nat.zero_le _, rfl, Lib.hid (fun q hq => absurd hq (by omega))⟩
  case round =>
    obtain ⟨j, hj, rfl, HN⟩ := hrel
    by_cases hlt : j < R.objs.length
    · have d1 : decide ((j : Int) < (R.objs.length : Int)) = true := dct (by omega)
      obtain ⟨b, off, e, hbB, hcell⟩ := o_at HR.out hlt
      have x0 := hcell 0 _ (by omega) rfl
      rw [Nat.add_zero] at x0
      have hi0 : (0 : Int) ≤ (j : Int) := by omega
      have hi1 : (j : Int) < (R.objs.length : Int) := by omega
      have HG := Lib.hid (go_eq hlt)
      rw [e] at z0
      clear hcell
      cases hk : keyIs k (go R.objs j) with
      | true =>
        have d2 : ((go R.objs j).key.toList == k.toList) = true := hk
        have HX : Hid (R.idxO k = (j : Int)) := Lib.hid (by
          have := idxF_hit (p := keyIs k) (k := 0) hlt (fun q hq => HN.out q hq (by omega)) (by rw [HG.out]; exact hk)
          rw [Nat.zero_add] at this
          exact this)
        clear hk
        generalize go R.objs j = y at *
        go_wp2
        go_ret
        exact ⟨by rw [HX.out]; rfl, rfl⟩
      | false =>
        have d2 : ((go R.objs j).key.toList == k.toList) = false := hk
        have HK := Lib.hid hk
        clear hk
        have HN2 : Hid (∀ q (hq : q < j + 1) (hl : q < R.objs.length), keyIs k R.objs[q] = false) := Lib.hid fun q hq hl => by
          rcases Nat.lt_or_ge q j with h | h
          · exact HN.out q h hl
          · have : q = j := by omega
            subst this
            rw [HG.out]; exact HK.out
        generalize go R.objs j = y at *
        go_wp2
        go_round
        case rel => exact ⟨j + 1, by omega, by go_num, HN2⟩
        case measure => simp [intOf]; omega
    · obtain rfl : j = R.objs.length := by omega
      have d1 : decide ((R.objs.length : Int) < (R.objs.length : Int)) = false := dcf (by omega)
      have HX : Hid (R.idxO k = -1) := Lib.hid (idxF_miss fun x hx => by
        obtain ⟨q, hq, rfl⟩ := List.getElem_of_mem hx
        exact HN.out q hq hq)
      go_wp2
      go_ret
      exact ⟨by rw [HX.out]; rfl, rfl⟩
set_option maxRecDepth 100000 in
theorem open_calls (w : World) {base : Nat} {R : RS} (h : RAt w base R) (hn : R.ups.length ≤ 1000000) (n : Int) :
    Calls Tryz.prog 24 #[.pointer (some ⟨R.g, 0, none⟩), .int .i64 n] w fun e w' => e = .returned (.int .i64 (R.idxU n)) ∧ w = w' := by
  have z0 : w.cell? ⟨R.g, 1, none⟩ = some (.slice R.AU R.ups.length R.cU) := h.blk.cell 1
  have HR := Lib.hid h.u_reads
  clear h
  go_enter Tryz.func24, Tryz.ntmps24
  go_wp2
  go_loop [11] (fun i => ∃ j : Nat, j ≤ R.ups.length ∧ i = .int .i64 (j : Int) ∧ Hid (∀ q (hq : q < j) (hl : q < R.ups.length), idIs n R.ups[q] = false)) (fun i => R.ups.length - (intOf i).toNat)
  case atStart => exact ⟨0, Nat.zero_le _, rfl, Lib.hid (fun q hq => absurd hq (by omega))⟩
  case round =>
    obtain ⟨j, hj, rfl, HN⟩ := hrel
    by_cases hlt : j < R.ups.length
    · have d1 : decide ((j : Int) < (R.ups.length : Int)) = true := dct (by omega)
      obtain ⟨b, off, e, hbB, hcell⟩ := u_at HR.out hlt
      have x0 := hcell 0 _ (by omega) rfl
      rw [Nat.add_zero] at x0
      have hi0 : (0 : Int) ≤ (j : Int) := by omega
      have hi1 : (j : Int) < (R.ups.length : Int) := by omega
      have HG := Lib.hid (gu_eq hlt)
      rw [e] at z0
      clear hcell
      cases hk : idIs n (gu R.ups j) with
      | true =>
        have d2 : ((gu R.ups j).id == n) = true := hk
        have HX : Hid (R.idxU n = (j : Int)) := Lib.hid (by
          have := idxF_hit (p := idIs n) (k := 0) hlt (fun q hq => HN.out q hq (by omega)) (by rw [HG.out]; exact hk)
          rw [Nat.zero_add] at this
          exact this)
        clear hk
        generalize gu R.ups j = y at *
        go_wp2
        go_ret
        exact ⟨by rw [HX.out]; rfl, rfl⟩
      | false =>
        have d2 : ((gu R.ups j).id == n) = false := hk
        have HK := Lib.hid hk
        clear hk
        have HN2 : Hid (∀ q (hq : q < j + 1) (hl : q < R.ups.length), idIs n R.ups[q] = false) := Lib.hid fun q hq hl => by
          rcases Nat.lt_or_ge q j with h | h
          · exact HN.out q h hl
          · have : q = j := by omega
            subst this
            rw [HG.out]; exact HK.out
        generalize gu R.ups j = y at *
        go_wp2
        go_round
        case rel => exact ⟨j + 1, by omega, by go_num, HN2⟩
        case measure => simp [intOf]; omega
    · obtain rfl : j = R.ups.length := by omega
      have d1 : decide ((R.ups.length : Int) < (R.ups.length : Int)) = false := dcf (by omega)
      have HX : Hid (R.idxU n = -1) := Lib.hid (idxF_miss fun x hx => by
        obtain ⟨q, hq, rfl⟩ := List.getElem_of_mem hx
        exact HN.out q hq hq)
      go_wp2
      go_ret
      exact ⟨by rw [HX.out]; rfl, rfl⟩

def psumR (l : List Rp) : Nat := (l.map fun p => p.d.length).sum
def osumR (l : List Ro) : Nat := (l.map fun o => o.d.length).sum
def usumR (l : List Ru) : Nat := (l.map fun u => psumR u.parts).sum
def RS.size (R : RS) : Nat := osumR R.objs + usumR R.ups
theorem psumR_snoc (l : List Rp) {j : Nat} (hj : j < l.length) : psumR (l.take (j + 1)) = psumR (l.take j) + (gp l j).d.length := by
  unfold psumR
  rw [List.take_succ_eq_append_getElem hj, List.map_append, List.sum_append, gp_eq hj]; simp
theorem osumR_snoc (l : List Ro) {j : Nat} (hj : j < l.length) : osumR (l.take (j + 1)) = osumR (l.take j) + (go l j).d.length := by
  unfold osumR
  rw [List.take_succ_eq_append_getElem hj, List.map_append, List.sum_append, go_eq hj]; simp
theorem usumR_snoc (l : List Ru) {j : Nat} (hj : j < l.length) : usumR (l.take (j + 1)) = usumR (l.take j) + psumR (gu l j).parts := by
  unfold usumR
  rw [List.take_succ_eq_append_getElem hj, List.map_append, List.sum_append, gu_eq hj]; simp
theorem psumR_take (l : List Rp) (j : Nat) : psumR (l.take j) ≤ psumR l := by
  have : psumR l = psumR (l.take j) + psumR (l.drop j) := by
    unfold psumR
    rw [← List.sum_append, ← List.map_append, List.take_append_drop]
  omega
theorem osumR_take (l : List Ro) (j : Nat) : osumR (l.take j) ≤ osumR l := by
  have : osumR l = osumR (l.take j) + osumR (l.drop j) := by
    unfold osumR
    rw [← List.sum_append, ← List.map_append, List.take_append_drop]
  omega
theorem usumR_take (l : List Ru) (j : Nat) : usumR (l.take j) ≤ usumR l := by
  have : usumR l = usumR (l.take j) + usumR (l.drop j) := by
    unfold usumR
    rw [← List.sum_append, ← List.map_append, List.take_append_drop]
  omega
theorem usumR_mem : ∀ {l : List Ru} {u : Ru}, u ∈ l → psumR u.parts ≤ usumR l
  | a :: r, u, h => by
    have e : usumR (a :: r) = psumR a.parts + usumR r := by unfold usumR; rw [List.map_cons, List.sum_cons]
    rw [e]
    rcases List.mem_cons.1 h with rfl | h
    · exact Nat.le_add_right _ _
    · exact Nat.le_trans (usumR_mem h) (Nat.le_add_left _ _)
set_option maxRecDepth 100000 in
set_option maxHeartbeats 1600000 in
theorem sizeU_calls (w : World) (u : Ru) (h : Reads w w.heap.size 2 u.PA u.parts.length (pCells u.parts)) (hn : u.parts.length ≤ 1000000) (hs : psumR u.parts ≤ 1000000000) :
    Calls Tryz.prog 33 #[.agg #[.int .i64 u.id, .int .i64 u.born, .string u.key, .slice u.PA u.parts.length u.pc]] w fun e w' => e = .returned (.int .i64 (psumR u.parts : Nat)) ∧ Below w.heap.size w w' := by
  have HR := Lib.hid h
  clear h
  go_enter Tryz.func33, Tryz.ntmps33
  go_upto_region 1 with fail
  have hb1 : Below w.heap.size w (w.alloc (.cells #[.int .i64 u.id, .int .i64 u.born, .string u.key, .slice u.PA u.parts.length u.pc] 74)) := (Below.refl _ _).alloc (Nat.le_refl _) _
  have HB := Lib.hid (Blk.new w 74 #[.int .i64 u.id, .int .i64 u.born, .string u.key, .slice u.PA u.parts.length u.pc])
  have HW1 := Lib.hid hb1
  clear hb1
  generalize w.alloc (.cells #[.int .i64 u.id, .int .i64 u.born, .string u.key, .slice u.PA u.parts.length u.pc] 74) = w1 at *
  generalize hg1 : w.heap.size = g1 at *
  have z3 : w1.cell? ⟨g1, 3, none⟩ = some (.slice u.PA u.parts.length u.pc) := HB.out.cell 3
  go_wp2
  go_loopw [3, 9] (fun n i wr => ∃ j : Nat, j ≤ u.parts.length ∧ i = .int .i64 (j : Int) ∧ n = .int .i64 (psumR (u.parts.take j) : Nat) ∧ Hid (Below g1 w wr)) (fun _ i _ => u.parts.length - (intOf i).toNat)
  case atStart => exact ⟨0, Nat.zero_le _, rfl, rfl, HW1⟩
  case round =>
    obtain ⟨j, hj, rfl, rfl, HW⟩ := hrel
    obtain ⟨wi, rfl⟩ : ∃ wi : World, wi = wr := ⟨_, rfl⟩
    clear z3
    by_cases hlt : j < u.parts.length
    · have d1 : decide ((j : Int) < (u.parts.length : Int)) = true := dct (by omega)
      obtain ⟨b, off, e, hbB, hcell⟩ := p_at (HR.out.below HW.out) hlt
      have x0 := hcell 0 _ (by omega) rfl
      have x1 := hcell 1 _ (by omega) rfl
      rw [Nat.add_zero] at x0
      have hi0 : (0 : Int) ≤ (j : Int) := by omega
      have hi1 : (j : Int) < (u.parts.length : Int) := by omega
      have HS := Lib.hid (psumR_snoc u.parts hlt)
      have hs1 := psumR_take u.parts (j + 1)
      rw [HS.out] at hs1
      generalize hk : psumR (u.parts.take j) = k at *
      clear hk
      rw [e]
      clear hcell
      generalize gp u.parts j = y at *
      have r1 : IntKind.i64.wrap ((k : Int) + (y.d.length : Int)) = (k : Int) + (y.d.length : Int) := by rw [IntKind.wrap_i64]; omega
      have hle := HW.out.size
      go_wp2
      go_roundw
      case rel => exact ⟨j + 1, by omega, by go_num, by rw [HS.out]; push_cast; rfl, Lib.hid (HW.out.alloc (by omega) _)⟩
      case measure => simp [intOf]; omega
    · obtain rfl : j = u.parts.length := by omega
      have d1 : decide ((u.parts.length : Int) < (u.parts.length : Int)) = false := dcf (by omega)
      go_wp2
      go_ret
      exact ⟨by rw [List.take_length]; rfl, hg1 ▸ HW.out⟩
end Rf
end Go.Proofs.YtlljpjehalodfaaGreat

namespace Go.Proofs.YtlljpjehalodfaaGreat
open Go.RowKit
namespace Rf
open St

set_option maxRecDepth 100000 in
set_option maxHeartbeats 1600000 in
theorem size_calls (w : World) {base : Nat} {R : RS} (h : RAt w base R) (hn : R.objs.length ≤ 1000000) (hu : R.ups.length ≤ 1000000) (hp : ∀ u ∈ R.ups, u.parts.length ≤ 1000000) (hs : R.size ≤ 1000000000) :
    Calls Tryz.prog 27 #[.pointer (some ⟨R.g, 0, none⟩)] w fun e w' => e = .returned (.int .i64 (R.size : Nat)) ∧ Below w.heap.size w w' := by
  have HA := Lib.hid h
  have hs1 : osumR R.objs + usumR R.ups ≤ 1000000000 := hs
  have HP := Lib.hid hp
  have HSZ : Hid (R.size = osumR R.objs + usumR R.ups) := Lib.hid rfl
  have hgl := h.blk.lt
  clear h hp hs
  have z0 : w.cell? ⟨R.g, 0, none⟩ = some (.slice R.AO R.objs.length R.cO) := HA.out.blk.cell 0
  go_enter Tryz.func27, Tryz.ntmps27
  go_wp2
  clear z0
  go_loopw [3, 13] (fun n i wr => ∃ j : Nat, j ≤ R.objs.length ∧ i = .int .i64 (j : Int) ∧ n = .int .i64 (osumR (R.objs.take j) : Nat) ∧ Hid (Below w.heap.size w wr)) (fun _ i _ => R.objs.length - (intOf i).toNat)
  case atStart => exact ⟨0, Nat.zero_le _, rfl, rfl, Lib.hid (Below.refl _ _)⟩
  case round =>
    obtain ⟨j, hj, rfl, rfl, HW⟩ := hrel
    obtain ⟨wi, rfl⟩ : ∃ wi : World, wi = wr := ⟨_, rfl⟩
    have hle := HW.out.size
    by_cases hlt : j < R.objs.length
    · have d1 : decide ((j : Int) < (R.objs.length : Int)) = true := dct (by omega)
      obtain ⟨b, off, e, hbB, hcell⟩ := o_at (HA.out.o_reads.below HW.out) hlt
      have x0 := hcell 0 _ (by omega) rfl
      have x1 := hcell 1 _ (by omega) rfl
      have x2 := hcell 2 _ (by omega) rfl
      have x3 := hcell 3 _ (by omega) rfl
      rw [Nat.add_zero] at x0
      have hi0 : (0 : Int) ≤ (j : Int) := by omega
      have hi1 : (j : Int) < (R.objs.length : Int) := by omega
      have HS := Lib.hid (osumR_snoc R.objs hlt)
      have hs1 := osumR_take R.objs (j + 1)
      rw [HS.out] at hs1
      generalize hk : osumR (R.objs.take j) = k at *
      clear hk
      rw [e]
      clear hcell
      generalize go R.objs j = y at *
      have r1 : IntKind.i64.wrap ((k : Int) + (y.d.length : Int)) = (k : Int) + (y.d.length : Int) := by rw [IntKind.wrap_i64]; omega
      go_wp2
      go_roundw
      case rel => exact ⟨j + 1, by omega, by go_num, by rw [HS.out]; push_cast; rfl, Lib.hid (HW.out.alloc (by omega) _)⟩
      case measure => simp [intOf]; omega
    · obtain rfl : j = R.objs.length := by omega
      have d1 : decide ((R.objs.length : Int) < (R.objs.length : Int)) = false := dcf (by omega)
      have z1 : wi.cell? ⟨R.g, 1, none⟩ = some (.slice R.AU R.ups.length R.cU) := (HA.out.blk.below HW.out hgl).cell 1
      rw [List.take_length]
      generalize hos : osumR R.objs = os at *
      have HOS := Lib.hid hos
      clear hos
      go_wp2
      clear z1 d1
      go_loopw [3, 28] (fun n i wr => ∃ j : Nat, j ≤ R.ups.length ∧ i = .int .i64 (j : Int) ∧ n = .int .i64 ((os + usumR (R.ups.take j) : Nat) : Int) ∧ Hid (Below w.heap.size w wr)) (fun _ i _ => R.ups.length - (intOf i).toNat)
      case atStart => exact ⟨0, Nat.zero_le _, rfl, rfl, HW⟩
      case round =>
        clear HW
        obtain ⟨j, hj, rfl, rfl, HW⟩ := hrel
        obtain ⟨wj, rfl⟩ : ∃ wj : World, wj = wr := ⟨_, rfl⟩
        have hle := HW.out.size
        by_cases hlt2 : j < R.ups.length
        · have d1 : decide ((j : Int) < (R.ups.length : Int)) = true := dct (by omega)
          obtain ⟨b, off, e, hbB, hcell⟩ := u_at (HA.out.u_reads.below HW.out) hlt2
          have x0 := hcell 0 _ (by omega) rfl
          have x1 := hcell 1 _ (by omega) rfl
          have x2 := hcell 2 _ (by omega) rfl
          have x3 := hcell 3 _ (by omega) rfl
          rw [Nat.add_zero] at x0
          have hi0 : (0 : Int) ≤ (j : Int) := by omega
          have hi1 : (j : Int) < (R.ups.length : Int) := by omega
          have HS := Lib.hid (usumR_snoc R.ups hlt2)
          have hs1 := usumR_take R.ups (j + 1)
          have hm := usumR_mem (gu_mem hlt2)
          have hpl := HP.out _ (gu_mem hlt2)
          have HRP := Lib.hid ((HA.out.up _ (gu_mem hlt2)).1.below HW.out)
          rw [HS.out] at hs1
          generalize hk : usumR (R.ups.take j) = k at *
          clear hk
          rw [e]
          clear hcell
          generalize gu R.ups j = y at *
          go_upto_region 10 with fail
          have HW6 := Lib.hid (HW.out.alloc hle (.cells #[.int .i64 y.id, .int .i64 y.born, .string y.key, .slice y.PA y.parts.length y.pc] 74))
          have HB6 := Lib.hid (Blk.new wj 74 #[.int .i64 y.id, .int .i64 y.born, .string y.key, .slice y.PA y.parts.length y.pc])
          have hRP := HRP.out.below (((Below.refl wj.heap.size wj).alloc (Nat.le_refl _) (.cells #[.int .i64 y.id, .int .i64 y.born, .string y.key, .slice y.PA y.parts.length y.pc] 74)).mono hle)
          have HSU := Lib.hid (sizeU_calls (wj.alloc (.cells #[.int .i64 y.id, .int .i64 y.born, .string y.key, .slice y.PA y.parts.length y.pc] 74)) y (hRP.more (by simp; omega)) hpl (by omega))
          have hle6 : w.heap.size ≤ (wj.alloc (.cells #[.int .i64 y.id, .int .i64 y.born, .string y.key, .slice y.PA y.parts.length y.pc] 74)).heap.size := by simp; omega
          clear x0 x1 x2 x3 HW HRP hRP
          generalize wj.alloc (.cells #[.int .i64 y.id, .int .i64 y.born, .string y.key, .slice y.PA y.parts.length y.pc] 74) = w6 at *
          generalize wj.heap.size = g6 at *
          have y0 : w6.cell? ⟨g6, 0, none⟩ = some (.int .i64 y.id) := HB6.out.cell 0
          have y1 : w6.cell? ⟨g6, 1, none⟩ = some (.int .i64 y.born) := HB6.out.cell 1
          have y2 : w6.cell? ⟨g6, 2, none⟩ = some (.string y.key) := HB6.out.cell 2
          have y3 : w6.cell? ⟨g6, 3, none⟩ = some (.slice y.PA y.parts.length y.pc) := HB6.out.cell 3
          go_wp2_with fail
          refine HSU.out.mono ?_
          rintro e w7 ⟨rfl, hb7⟩
          have HW7 := Lib.hid (HW6.out.trans (hb7.mono hle6))
          have r1 : IntKind.i64.wrap (((os + k : Nat) : Int) + (psumR y.parts : Int)) = ((os + k : Nat) : Int) + (psumR y.parts : Int) := by rw [IntKind.wrap_i64]; omega
          have r2 : IntKind.i64.wrap ((os : Int) + (k : Int) + (psumR y.parts : Int)) = (os : Int) + (k : Int) + (psumR y.parts : Int) := by rw [IntKind.wrap_i64]; omega
          clear hb7 HSU HW6 HB6 y0 y1 y2 y3
          go_wp2
          go_roundw
          case rel => exact ⟨j + 1, by omega, by go_num, by rw [HS.out]; push_cast; rw [← Int.add_assoc], HW7⟩
          case measure => simp [intOf]; omega
        · obtain rfl : j = R.ups.length := by omega
          have d1 : decide ((R.ups.length : Int) < (R.ups.length : Int)) = false := dcf (by omega)
          rw [List.take_length]
          go_wp2
          go_ret
          exact ⟨by rw [HSZ.out]; rfl, HW.out⟩
/-- The bytes of a key may be. -/
def okByte (b : UInt8) : Bool := !(decide (b.toNat ≤ 32) || decide (127 ≤ b.toNat))
end Rf
end Go.Proofs.YtlljpjehalodfaaGreat

namespace Go.Proofs.YtlljpjehalodfaaGreat
open Go.RowKit
namespace Rf
open St

def byt (k : ByteArray) (i : Nat) : Nat := (k.data.toList.getD i 0).toNat
theorem byt_eq {k : ByteArray} {i : Nat} (h : i < k.size) : k[i].toNat = byt k i := by
  have h' : i < k.data.toList.length := by rw [Array.length_toList]; exact h
  unfold byt
  simp only [List.getD, List.getElem?_eq_getElem h', Option.getD_some]
  rfl
def okB (n : Nat) : Bool := !(decide (n ≤ 32) || decide (127 ≤ n))
def keyB (k : ByteArray) : Bool := decide (1 ≤ k.size) && (decide (k.size ≤ 40) && (List.range k.size).all fun i => okB (byt k i))
theorem keyB_bad {k : ByteArray} {i : Nat} (h : i < k.size) (hb : okB (byt k i) = false) : keyB k = false := by
  unfold keyB
  have : ((List.range k.size).all fun i => okB (byt k i)) = false := List.all_eq_false.2 ⟨i, List.mem_range.2 h, by rw [hb]; decide⟩
  rw [this, Bool.and_false, Bool.and_false]
theorem keyB_ok {k : ByteArray} (h1 : 1 ≤ k.size) (h40 : k.size ≤ 40) (h : ∀ i, i < k.size → okB (byt k i) = true) : keyB k = true := by
  unfold keyB
  rw [decide_eq_true h1, decide_eq_true h40, List.all_eq_true.2 fun i hi => h i (List.mem_range.1 hi)]
  rfl
theorem get_byt {k : ByteArray} {i : Nat} (h : i < k.size) : (k.get! i).toNat = byt k i := by
  rw [← byt_eq h]
  have h' : i < k.data.size := h
  show (k.data[i]!).toNat = _
  rw [getElem!_pos k.data i h']; rfl
set_option maxRecDepth 100000 in
theorem decode_low {s : ByteArray} {i : Nat} (h : i < s.size) (hb : byt s i < 128) : Utf8.decode s i = (byt s i, 1) := by
  have e : (s.get! (i + 0)).toNat = byt s i := get_byt h
  unfold Utf8.decode
  dsimp only
  rw [if_pos (show (s.get! (i + 0)).toNat < 128 by rw [e]; exact hb), e]
set_option maxRecDepth 100000 in
theorem decode_high {s : ByteArray} {i : Nat} (h : i < s.size) (hb : 128 ≤ byt s i) : 128 ≤ (Utf8.decode s i).1 := by
  have e : (s.get! (i + 0)).toNat = byt s i := get_byt h
  unfold Utf8.decode Utf8.runeError
  dsimp only
  rw [if_neg (show ¬ (s.get! (i + 0)).toNat < 128 by rw [e]; omega)]
  split
  · split
    · rename_i h1; exact h1
    · decide
  split
  · split
    · rename_i h1
      rw [Bool.and_eq_true, decide_eq_true_iff] at h1
      exact Nat.le_trans (by decide) h1.1
    · decide
  split
  · split
    · rename_i h1
      rw [Bool.and_eq_true, decide_eq_true_iff] at h1
      exact Nat.le_trans (by decide) h1.1
    · decide
  · decide
theorem run_ok {s : ByteArray} (h : ∀ i, i < s.size → okB (byt s i) = true) : ∀ (f pos : Nat), Lib.idxFuncFrom badR true s f pos = -1
  | 0, _ => rfl
  | f + 1, pos => by
    unfold Lib.idxFuncFrom
    split
    · rename_i hp
      have hb := h pos hp
      unfold okB at hb
      simp at hb
      rw [decode_low hp (by omega), if_neg (by unfold badR; simp; omega)]
      exact run_ok h f _
    · rfl
theorem run_bad {s : ByteArray} {i : Nat} (hi : i < s.size) (hb : okB (byt s i) = false) (hn : ∀ j, j < i → okB (byt s j) = true) : ∀ (f pos : Nat), pos ≤ i → i < pos + f → 0 ≤ Lib.idxFuncFrom badR true s f pos
  | 0, pos, h1, h2 => by omega
  | f + 1, pos, h1, h2 => by
    unfold Lib.idxFuncFrom
    rw [if_pos (by omega)]
    by_cases e : pos = i
    · subst e
      rw [if_pos]
      · omega
      · unfold okB at hb
        simp at hb
        rcases Nat.lt_or_ge (byt s pos) 128 with h | h
        · rw [decode_low hi h]; unfold badR; simp; omega
        · have := decode_high hi h; unfold badR; simp; omega
    · have hp := hn pos (by omega)
      unfold okB at hp
      simp at hp
      rw [decode_low (by omega) (by omega), if_neg (by unfold badR; simp; omega)]
      exact run_bad hi hb hn f _ (by dsimp only; omega) (by dsimp only; omega)
theorem first_bad {s : ByteArray} : ∀ n, (∀ j, j < n → okB (byt s j) = true) ∨ ∃ i, i < n ∧ okB (byt s i) = false ∧ ∀ j, j < i → okB (byt s j) = true
  | 0 => .inl fun j hj => absurd hj (by omega)
  | n + 1 => by
    rcases first_bad n with h | ⟨i, h1, h2, h3⟩
    · cases hb : okB (byt s n) with
      | false => exact .inr ⟨n, by omega, hb, h⟩
      | true =>
        refine .inl fun j hj => ?_
        rcases Nat.lt_or_ge j n with h' | h'
        · exact h j h'
        · rw [show j = n by omega]; exact hb
    · exact .inr ⟨i, by omega, h2, h3⟩
theorem keyB_right (k : ByteArray) : keyB k = rightB k := by
  unfold rightB
  by_cases h1 : 1 ≤ k.size
  · by_cases h40 : k.size ≤ 40
    · rcases first_bad (s := k) k.size with h | ⟨i, h2, h3, h4⟩
      · rw [keyB_ok h1 h40 h, decide_eq_true h1, decide_eq_true h40]
        unfold Lib.idxFunc
        rw [run_ok h]; rfl
      · rw [keyB_bad h2 h3, decide_eq_true h1, decide_eq_true h40]
        unfold Lib.idxFunc
        rw [decide_eq_true (run_bad h2 h3 h4 k.size 0 (by omega) (by omega))]; rfl
    · unfold keyB; rw [decide_eq_false h40]; simp
  · unfold keyB; rw [decide_eq_false h1]; simp
set_option maxRecDepth 100000 in
theorem key_calls (w : World) (k : ByteArray) (hk : k.size ≤ maxLen) : Calls Tryz.prog 25 #[.string k] w fun e w' => e = .returned (.bool (keyB k)) ∧ w = w' := by
  unfold maxLen at hk
  by_cases h1 : k.size < 1
  · have d1 : decide (k.size < 1) = true := decide_eq_true h1
    have d1' : decide ((k.size : Int) < 1) = true := dct (by omega)
    have HX : Hid (keyB k = false) := Lib.hid (by unfold keyB; rw [decide_eq_false (by omega)]; rfl)
    go_enter Tryz.func25, Tryz.ntmps25
    go_wp2
    go_ret
    exact ⟨by rw [HX.out]; rfl, rfl⟩
  have d1 : decide (k.size < 1) = false := decide_eq_false h1
  have d1' : decide ((k.size : Int) < 1) = false := dcf (by omega)
  by_cases h40 : 40 < k.size
  · have d2 : decide (40 < k.size) = true := decide_eq_true h40
    have d2' : decide ((40 : Int) < (k.size : Int)) = true := dct (by omega)
    have HX : Hid (keyB k = false) := Lib.hid (by unfold keyB; rw [decide_eq_false (p := k.size ≤ 40) (by omega)]; simp)
    go_enter Tryz.func25, Tryz.ntmps25
    go_wp2
    go_ret
    exact ⟨by rw [HX.out]; rfl, rfl⟩
  have d2 : decide (40 < k.size) = false := decide_eq_false h40
  have d2' : decide ((40 : Int) < (k.size : Int)) = false := dcf (by omega)
  go_enter Tryz.func25, Tryz.ntmps25
  go_wp2
  go_loop [3] (fun i => ∃ j : Nat, j ≤ k.size ∧ i = .int .i64 (j : Int) ∧ Hid (∀ q, q < j → okB (byt k q) = true)) (fun i => k.size - (intOf i).toNat)
  case atStart => exact ⟨0, Nat.zero_le _, rfl, Lib.hid (fun q hq => absurd hq (by omega))⟩
  case round =>
    obtain ⟨j, hj, rfl, HN⟩ := hrel
    by_cases hlt : j < k.size
    · have d3 : decide ((j : Int) < (k.size : Int)) = true := dct (by omega)
      have HG := Lib.hid (byt_eq hlt)
      by_cases hb1 : k[j].toNat ≤ 32
      · have d4 : decide ((k[j].toNat : Int) ≤ 32) = true := dct (by omega)
        have HX : Hid (keyB k = false) := Lib.hid (keyB_bad hlt (by rw [← HG.out]; unfold okB; simp; omega))
        go_wp2
        go_ret
        exact ⟨by rw [HX.out]; rfl, rfl⟩
      · have d4 : decide ((k[j].toNat : Int) ≤ 32) = false := dcf (by omega)
        by_cases hb2 : 127 ≤ k[j].toNat
        · have d5 : decide ((127 : Int) ≤ (k[j].toNat : Int)) = true := dct (by omega)
          have HX : Hid (keyB k = false) := Lib.hid (keyB_bad hlt (by rw [← HG.out]; unfold okB; simp; omega))
          go_wp2
          go_ret
          exact ⟨by rw [HX.out]; rfl, rfl⟩
        · have d5 : decide ((127 : Int) ≤ (k[j].toNat : Int)) = false := dcf (by omega)
          have HN2 : Hid (∀ q, q < j + 1 → okB (byt k q) = true) := Lib.hid fun q hq => by
            rcases Nat.lt_or_ge q j with h | h
            · exact HN.out q h
            · rw [show q = j by omega, ← HG.out]; unfold okB; simp; omega
          go_wp2
          go_round
          case rel => exact ⟨j + 1, by omega, by go_num, HN2⟩
          case measure => simp [intOf]; omega
    · obtain rfl : j = k.size := by omega
      have d3 : decide ((k.size : Int) < (k.size : Int)) = false := dcf (by omega)
      have HX : Hid (keyB k = true) := Lib.hid (keyB_ok (by omega) (by omega) HN.out)
      go_wp2
      go_ret
      exact ⟨by rw [HX.out]; rfl, rfl⟩
end Rf
end Go.Proofs.YtlljpjehalodfaaGreat
