/- The document's store turned (chapter 14). -/
import Derived.Test.YtlljpjehalodfaaGreatProg
import Derived.Test.YtlljpjehalodfaaGreatPlAD
import Derived.Test.YtlljpjehalodfaaGreatStX
namespace Go.Proofs.YtlljpjehalodfaaGreat
open Go.RowKit
namespace Rf
open St

section
variable {w w' : World} {base : Nat} {R R' : RS}
/-- What turned of a store's own memory is its own, or new. -/
def Grew (w : World) (R R' : RS) : Prop := ∀ i, R'.foot i → R.foot i ∨ w.heap.size ≤ i
theorem Grew.refl (w : World) (R : RS) : Grew w R R := fun _ h => .inl h
theorem reads_kept {size n : Nat} {A : Option Addr} {xs : List Value} (h : Reads w w.heap.size size A n xs) (hs : 0 < size) (ho : Out R A n) (hk : Keep R.foot w w') : Reads w' w'.heap.size size A n xs := by
  refine ⟨h.1, fun hp => ?_⟩
  obtain ⟨b, off, e, hb, hc⟩ := h.2 (by exact hp)
  have hn : 0 < n := by
    rcases Nat.eq_zero_or_pos n with h0 | h0
    · subst h0; exact absurd hp (by omega)
    · exact h0
  exact ⟨b, off, e, Nat.lt_of_lt_of_le hb hk.size, fun j u hu => hk.cell (hc j u hu) (show ¬ R.foot b from ho hn _ e)⟩
theorem out_kept {size n : Nat} {A : Option Addr} {xs : List Value} (h : Reads w w.heap.size size A n xs) (ho : Out R A n) (hg : Grew w R R') : Out R' A n := fun hn a ha hf => by
  obtain ⟨b, off, e, hb, -⟩ := h.2 hn
  rcases hg _ hf with h1 | h1
  · exact ho hn a ha h1
  · rw [ha] at e; injection e with e; subst e; dsimp only at h1; omega
theorem RD.kept {A : Option Addr} {c : Nat} {d : Bs} (h : RD w R A c d) (hk : Keep R.foot w w') (hg : Grew w R R') : RD w' R' A c d :=
  ⟨.of (reads_kept h.by_.2 (by omega) h.out hk), h.len, h.cm, out_kept h.by_.2 h.out hg⟩
/-- The parts of an upload. -/
structure RU (w : World) (R : RS) (u : Ru) : Prop where
  up : Reads w w.heap.size 2 u.PA u.parts.length (pCells u.parts) ∧ u.parts.length ≤ u.pc ∧ u.pc ≤ maxLen ∧ Out R u.PA u.parts.length
  ud : ∀ p ∈ u.parts, RD w R p.A p.c p.d
theorem RU.kept {u : Ru} (h : RU w R u) (hk : Keep R.foot w w') (hg : Grew w R R') : RU w' R' u :=
  ⟨⟨reads_kept h.up.1 (by omega) h.up.2.2.2 hk, h.up.2.1, h.up.2.2.1, out_kept h.up.1 h.up.2.2.2 hg⟩, fun p hp => (h.ud p hp).kept hk hg⟩
theorem RAt.ru_ (h : RAt w base R) {u : Ru} (hu : u ∈ R.ups) : RU w R u := ⟨h.up u hu, h.ud u hu⟩
/-- The whole, turned. -/
theorem RAt.to (h : RAt w base R) (hk : Keep R.foot w w') (hg : R'.g = R.g) (hgr : Grew w R R') (hb : Blk w' R.g 29 R'.cells)
    (ro : w'.ownsRow base 68 4 R'.oV R'.objs.length (oCells R'.objs)) (ru : w'.ownsRow base 74 4 R'.uV R'.ups.length (uCells R'.ups))
    (ou : ∀ x, R'.oV.ownBlock = some x → R'.uV.ownBlock ≠ some x)
    (od : ∀ o ∈ R'.objs, o ∈ R.objs ∨ RD w' R' o.A o.c o.d) (ud : ∀ u ∈ R'.ups, u ∈ R.ups ∨ RU w' R' u) : RAt w' base R' := by
  have hU : ∀ u ∈ R'.ups, RU w' R' u := fun u hu => by
    rcases ud u hu with h1 | h1
    · exact (h.ru_ h1).kept hk hgr
    · exact h1
  refine ⟨by rw [hg]; exact hb, ro, ru, by rw [hg]; exact h.gb, Nat.le_trans h.bw hk.size, ou, fun o ho => ?_, fun u hu => (hU u hu).up, fun u hu => (hU u hu).ud⟩
  rcases od o ho with h1 | h1
  · exact (h.od o h1).kept hk hgr
  · exact h1
/-- A number of the store is set. -/
theorem RAt.num (h : RAt w base R) {i : Nat} {u : Value} (hg : R'.g = R.g) (ho : R'.oV = R.oV) (hu : R'.uV = R.uV) (h1 : R'.objs = R.objs) (h2 : R'.ups = R.ups) (hc : R'.cells = R.cells.setIfInBounds i u) : RAt (w.setCell ⟨R.g, i, none⟩ u) base R' := by
  have hk : Keep R.foot w (w.setCell ⟨R.g, i, none⟩ u) := (Keep.refl _ _).setCell (.inl (.inl rfl)) _
  have hgr : Grew w R R' := fun j hj => by
    unfold RS.foot at hj ⊢
    rw [hg, ho, hu] at hj
    exact .inl hj
  have hne : ∀ (v : Value) (t : TypeId) (n : Nat) (xs : List Value), w.ownsRow base t 4 v n xs → (w.setCell ⟨R.g, i, none⟩ u).ownsRow base t 4 v n xs := fun v t n xs hr => by
    have hb := h.gb
    exact own_setCell (p := ⟨R.g, i, none⟩) hr hb u
  refine h.to hk hg hgr (by rw [hc]; exact h.blk.set_ i u) (by rw [ho, h1]; exact hne _ _ _ _ h.ro) (by rw [hu, h2]; exact hne _ _ _ _ h.ru) (fun x => by rw [ho, hu]; exact h.ou x) (fun o h' => .inl (by rw [h1] at h'; exact h')) (fun o h' => .inl (by rw [h2] at h'; exact h'))
end
def RS.tick (R : RS) (n : Int) : RS := if tickE R.now n = 0 then { R with now := R.now + n } else R
set_option maxRecDepth 100000 in
theorem tickR_calls (w : World) {base : Nat} {R : RS} (h : RAt w base R) {n : Int} (hn : -9223372036854775808 ≤ n) (hn' : n ≤ 9223372036854775807) (h0 : 0 ≤ R.now) (h1 : R.now ≤ 1099511627776) :
    Calls Tryz.prog 8 #[.pointer (some ⟨R.g, 0, none⟩), .int .i64 n] w fun e w' => e = .returned (.int .i64 (tickE R.now n)) ∧ RAt w' base (R.tick n) ∧ Keep R.foot w w' := by
  have z4 : w.cell? ⟨R.g, 4, none⟩ = some (.int .i64 R.now) := h.blk.cell 4
  have f4 := h.blk.frozen 4
  have HA := Lib.hid h
  have HT : Hid (tickE R.now n = if n < 0 ∨ 1099511627776 < n then 1 else if 1099511627775 - R.now < n then 2 else 0) := Lib.hid rfl
  clear h
  by_cases hneg : n < 0
  · have d1 := dct hneg
    have HX : Hid (tickE R.now n = 1) := Lib.hid (by rw [HT.out, if_pos (.inl hneg)])
    have HR : Hid (R.tick n = R) := Lib.hid (if_neg (by rw [HX.out]; decide))
    go_enter Tryz.func8, Tryz.ntmps8
    go_wp2
    go_ret
    exact ⟨by rw [HX.out]; rfl, by rw [HR.out]; exact HA.out, Keep.refl _ _⟩
  have d1 := dcf hneg
  by_cases hbig : 1099511627776 < n
  · have d2 := dct hbig
    have HX : Hid (tickE R.now n = 1) := Lib.hid (by rw [HT.out, if_pos (.inr hbig)])
    have HR : Hid (R.tick n = R) := Lib.hid (if_neg (by rw [HX.out]; decide))
    go_enter Tryz.func8, Tryz.ntmps8
    go_wp2
    go_ret
    exact ⟨by rw [HX.out]; rfl, by rw [HR.out]; exact HA.out, Keep.refl _ _⟩
  have d2 := dcf hbig
  by_cases hr : 1099511627775 - R.now < n
  · have d3 := dct hr
    have HX : Hid (tickE R.now n = 2) := Lib.hid (by rw [HT.out, if_neg (by omega), if_pos hr])
    have HR : Hid (R.tick n = R) := Lib.hid (if_neg (by rw [HX.out]; decide))
    go_enter Tryz.func8, Tryz.ntmps8
    go_wp2
    go_ret
    exact ⟨by rw [HX.out]; rfl, by rw [HR.out]; exact HA.out, Keep.refl _ _⟩
  have d3 := dcf hr
  have HX : Hid (tickE R.now n = 0) := Lib.hid (by rw [HT.out, if_neg (by omega), if_neg hr])
  have HR : Hid (R.tick n = { R with now := R.now + n }) := Lib.hid (if_pos HX.out)
  go_enter Tryz.func8, Tryz.ntmps8
  go_wp2
  go_ret
  exact ⟨by rw [HX.out]; rfl, by rw [HR.out]; exact HA.out.num rfl rfl rfl rfl rfl rfl, (Keep.refl _ _).setCell (.inl (.inl rfl)) _⟩
set_option maxRecDepth 100000 in
theorem bad_calls (w : World) (n : Int) : Calls Tryz.prog 26 #[.int .i64 n] w fun e w' => e = .returned (errV n) ∧ Below w.heap.size w w' := by
  have HB := Lib.hid (Blk.new w 43 rep0)
  have HW : Hid (Below w.heap.size w (w.alloc (.cells rep0 43))) := Lib.hid ((Below.refl _ _).alloc (Nat.le_refl _) _)
  unfold rep0 at HB HW
  go_enter Tryz.func26, Tryz.ntmps26
  go_upto_region 1 with fail
  generalize w.alloc (.cells #[.int .i64 0, .slice none 0 0, .int .i64 0, .int .i64 0, .int .i64 0, .slice none 0 0, .bool false] 43) = w1 at *
  generalize hg : w.heap.size = g1 at *
  have q0 : w1.cell? ⟨g1, 0, none⟩ = some (.int .i64 0) := HB.out.cell 0
  have p0 : w1.frozen? ⟨g1, 0, none⟩ = false := HB.out.frozen 0
  have q1 : w1.cell? ⟨g1, 1, none⟩ = some (.slice none 0 0) := HB.out.cell 1
  have p1 : w1.frozen? ⟨g1, 1, none⟩ = false := HB.out.frozen 1
  have q2 : w1.cell? ⟨g1, 2, none⟩ = some (.int .i64 0) := HB.out.cell 2
  have p2 : w1.frozen? ⟨g1, 2, none⟩ = false := HB.out.frozen 2
  have q3 : w1.cell? ⟨g1, 3, none⟩ = some (.int .i64 0) := HB.out.cell 3
  have p3 : w1.frozen? ⟨g1, 3, none⟩ = false := HB.out.frozen 3
  have q4 : w1.cell? ⟨g1, 4, none⟩ = some (.int .i64 0) := HB.out.cell 4
  have p4 : w1.frozen? ⟨g1, 4, none⟩ = false := HB.out.frozen 4
  have q5 : w1.cell? ⟨g1, 5, none⟩ = some (.slice none 0 0) := HB.out.cell 5
  have p5 : w1.frozen? ⟨g1, 5, none⟩ = false := HB.out.frozen 5
  have q6 : w1.cell? ⟨g1, 6, none⟩ = some (.bool false) := HB.out.cell 6
  have p6 : w1.frozen? ⟨g1, 6, none⟩ = false := HB.out.frozen 6
  go_wp2
  have hw := set7_blk (v0 := .int .i64 n) (v1 := .slice none 0 0) (v2 := .int .i64 0) (v3 := .int .i64 0) (v4 := .int .i64 0) (v5 := .slice none 0 0) (v6 := .bool false) HB.out
  have hk := set7_keep (w := w1) (g := g1) (v0 := .int .i64 n) (v1 := .slice none 0 0) (v2 := .int .i64 0) (v3 := .int .i64 0) (v4 := .int .i64 0) (v5 := .slice none 0 0) (v6 := .bool false)
  have hB7 := HW.out.trans (hk.below (B := g1) (Nat.le_of_lt HB.out.lt) (fun i e => by omega))
  unfold set7 at hw hB7
  refine bodyPost_ret (results_cell_row rfl _ _ g1 43 #[.int .i64 n, .slice none 0 0, .int .i64 0, .int .i64 0, .int .i64 0, .slice none 0 0, .bool false] (0, 0) _ rfl hw Tryz.underlying43 rfl (by kernel_rfl)) rfl ?_
  exact ⟨rfl, hg ▸ hB7⟩
end Rf
end Go.Proofs.YtlljpjehalodfaaGreat
