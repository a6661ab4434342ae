/- Same of both at rows. SameRows on rows that are the same. Comparisons that tell less, equal, greater rightly (plain law). Rows: slices.Clone of labels, twin (chapter 9). Rows in memory of their own; their order (chapter 9). -/
import Derived.Test.YtophfgijfmdbcaaProg
import Derived.Test.YtophfgijfmdbcaaRwB
import Derived.Test.YtophfgijfmdbcaaMeA
import Derived.Test.YtophfgijfmdbcaaLabN
import Derived.Lib.SliceRun

namespace Go.Proofs.Ytophfgijfmdbcaa
open Go.RowKit Go.Proofs.Ytophfgijfmdbcaa.So

def sameRw (x y : Rw) : Prop := cfR x y = 0 ∧ x.kind = y.kind ∧ x.text = y.text ∧ x.value = y.value ∧ x.null = y.null ∧ x.labs = y.labs
instance (x y : Rw) : Decidable (sameRw x y) := by unfold sameRw; infer_instance
def sameRwB (x y : Rw) : Bool := decide (sameRw x y)

set_option maxRecDepth 100000 in
set_option maxHeartbeats 3200000 in
theorem sameRwR_calls (w : World) {B1 B2 : Nat} (x y : Rw) (h1 : Labs w B1 x.A x.labs) (h2 : Labs w B2 y.A y.labs) (hB1 : B1 ≤ w.heap.size) (hB2 : B2 ≤ w.heap.size) (hn1 : x.labs.length ≤ 4398046511104) (hn2 : y.labs.length ≤ 4398046511104) :
    Calls Try.prog 25 #[rwA x, rwA y] w fun e w' => e = .returned (.bool (sameRwB x y)) ∧ Below w.heap.size w w' := by
  have hno : ¬ sameRw x y → sameRwB x y = false := fun h => dcf h
  have HC := Lib.hid fun W => cmpRwR_calls W x y
  have HS := Lib.hid fun W (hW : Below w.heap.size w W) => sameR_calls W (c1 := x.cp) (c2 := y.cp) (h1.below (hW.mono hB1)) (h2.below (hW.mono hB2)) (by omega) (by omega)
  clear h1 h2
  unfold rwA at *
  have HNO := Lib.hid hno
  clear hno
  go_enter Try.func25, Try.ntmps25
  go_wp2_with fail
  refine (HC.out _).mono ?_
  rintro e w1 ⟨rfl, hb1⟩
  have hb01 : Below w.heap.size w w1 := (((Below.refl w.heap.size w).alloc (Nat.le_refl _) _).alloc (by simp) _).trans (hb1.mono (by simp; omega))
  have hbkx : Blk w1 w.heap.size 58 #[.int .i64 x.kind, .int .i64 x.time, .slice x.A x.labs.length x.cp, .string x.text, .int .i64 x.value, .bool x.null, .int .i64 x.maker, .int .i64 x.seq, .int .i64 x.place] := ((Blk.new w 58 #[.int .i64 x.kind, .int .i64 x.time, .slice x.A x.labs.length x.cp, .string x.text, .int .i64 x.value, .bool x.null, .int .i64 x.maker, .int .i64 x.seq, .int .i64 x.place]).alloc (.cells #[.int .i64 y.kind, .int .i64 y.time, .slice y.A y.labs.length y.cp, .string y.text, .int .i64 y.value, .bool y.null, .int .i64 y.maker, .int .i64 y.seq, .int .i64 y.place] 58)).below hb1 (by simp; omega)
  have hbky : Blk w1 (w.heap.size + 1) 58 #[.int .i64 y.kind, .int .i64 y.time, .slice y.A y.labs.length y.cp, .string y.text, .int .i64 y.value, .bool y.null, .int .i64 y.maker, .int .i64 y.seq, .int .i64 y.place] := by
    have := (Blk.new (w.alloc (.cells #[.int .i64 x.kind, .int .i64 x.time, .slice x.A x.labs.length x.cp, .string x.text, .int .i64 x.value, .bool x.null, .int .i64 x.maker, .int .i64 x.seq, .int .i64 x.place] 58)) 58 #[.int .i64 y.kind, .int .i64 y.time, .slice y.A y.labs.length y.cp, .string y.text, .int .i64 y.value, .bool y.null, .int .i64 y.maker, .int .i64 y.seq, .int .i64 y.place]).below hb1 (by simp)
    rw [World.size_alloc] at this
    exact this
  obtain ⟨p0, p1, p2, p3, p4, p5, p6, p7, p8⟩ := blk_nineR hbkx
  obtain ⟨q0, q1, q2, q3, q4, q5, q6, q7, q8⟩ := blk_nineR hbky
  have hs1 := hb01.size
  have HB1 := Lib.hid hb01
  clear hb1 hb01 hbkx hbky
  by_cases e0 : cfR x y = 0
  · by_cases e1 : x.kind = y.kind
    · by_cases e2 : x.text = y.text
      · by_cases e3 : x.value = y.value
        · by_cases e4 : x.null = y.null
          · have HV : Hid (sameRwB x y = sameB x.labs y.labs) := Lib.hid (by
              unfold sameRwB sameB
              rw [Bool.eq_iff_iff, decide_eq_true_iff, decide_eq_true_iff]
              exact ⟨fun h => h.2.2.2.2.2, fun h => ⟨e0, e1, e2, e3, e4, h⟩⟩)
            have t0 : (cfR x y == 0) = true := eqt e0
            have t1 : (x.kind == y.kind) = true := eqt e1
            have t2 : (x.text.toList == y.text.toList) = true := by rw [bytes_eqd]; exact dct e2
            have t3 : (x.value == y.value) = true := eqt e3
            have t4 : (x.null == y.null) = true := by rw [e4]; exact beq_self_eq_true _
            clear e0 e1 e2 e3 e4
            go_wp2_with fail
            refine (HS.out _ HB1.out).mono ?_
            rintro e w2 ⟨rfl, hb2⟩
            go_wp2
            go_ret
            exact ⟨by rw [HV.out]; rfl, HB1.out.trans (hb2.mono hs1)⟩
          · have HV := Lib.hid (HNO.out fun h => e4 h.2.2.2.2.1)
            have t0 : (cfR x y == 0) = true := eqt e0
            have t1 : (x.kind == y.kind) = true := eqt e1
            have t2 : (x.text.toList == y.text.toList) = true := by rw [bytes_eqd]; exact dct e2
            have t3 : (x.value == y.value) = true := eqt e3
            have t4 : (x.null == y.null) = false := by rw [beq_eq_false_iff_ne]; exact e4
            clear e0 e1 e2 e3 e4
            go_wp2
            go_ret
            exact ⟨by rw [HV.out]; rfl, HB1.out⟩
        · have HV := Lib.hid (HNO.out fun h => e3 h.2.2.2.1)
          have t0 : (cfR x y == 0) = true := eqt e0
          have t1 : (x.kind == y.kind) = true := eqt e1
          have t2 : (x.text.toList == y.text.toList) = true := by rw [bytes_eqd]; exact dct e2
          have t3 : (x.value == y.value) = false := eqf e3
          clear e0 e1 e2 e3
          go_wp2
          go_ret
          exact ⟨by rw [HV.out]; rfl, HB1.out⟩
      · have HV := Lib.hid (HNO.out fun h => e2 h.2.2.1)
        have t0 : (cfR x y == 0) = true := eqt e0
        have t1 : (x.kind == y.kind) = true := eqt e1
        have t2 : (x.text.toList == y.text.toList) = false := by rw [bytes_eqd]; exact dcf e2
        clear e0 e1 e2
        go_wp2
        go_ret
        exact ⟨by rw [HV.out]; rfl, HB1.out⟩
    · have HV := Lib.hid (HNO.out fun h => e1 h.2.1)
      have t0 : (cfR x y == 0) = true := eqt e0
      have t1 : (x.kind == y.kind) = false := eqf e1
      clear e0 e1
      go_wp2
      go_ret
      exact ⟨by rw [HV.out]; rfl, HB1.out⟩
  · have HV := Lib.hid (HNO.out fun h => e0 h.1)
    have t0 : (cfR x y == 0) = false := eqf e0
    clear e0
    go_wp2
    go_ret
    exact ⟨by rw [HV.out]; rfl, HB1.out⟩
end Go.Proofs.Ytophfgijfmdbcaa

namespace Go.Proofs.Ytophfgijfmdbcaa
open Go.RowKit Go.Proofs.Ytophfgijfmdbcaa.So

/-- The same rows, wherever the labels lie. -/
def SameL (l m : List Rw) : Prop := l.map Rw.logic = m.map Rw.logic
theorem SameL.len {l m : List Rw} (h : SameL l m) : l.length = m.length := by have := congrArg List.length h; simpa using this
theorem logic_at {l : List Rw} {i : Nat} (hi : i < l.length) : (l.map Rw.logic)[i]? = some (Sr.gt l i).logic := by
  rw [List.getElem?_map, List.getElem?_eq_getElem hi, ← Sr.gt_eq hi]; rfl
theorem SameL.at_ {l m : List Rw} (h : SameL l m) {i : Nat} (hi : i < l.length) : (Sr.gt l i).logic = (Sr.gt m i).logic := by
  have h1 := logic_at hi
  have h2 := logic_at (l := m) (i := i) (by rw [← h.len]; exact hi)
  rw [h, h2] at h1
  exact (Option.some.inj h1).symm
theorem cfR_logic (x y : Rw) : cfR x.logic y.logic = cfR x y := rfl
theorem cfR_self (x : Rw) : cfR x x = 0 := cfR_same fun _ _ => rfl
theorem same_logic {x y : Rw} (h : x.logic = y.logic) : sameRw x y := by
  have e := fun (f : Rw → Int) (hf : ∀ z, f z.logic = f z) => (hf x).symm.trans ((congrArg f h).trans (hf y))
  have e1 := e Rw.kind fun _ => rfl
  have e2 := e Rw.value fun _ => rfl
  have e3 : x.text = y.text := show x.logic.text = y.logic.text by rw [h]
  have e4 : x.null = y.null := show x.logic.null = y.logic.null by rw [h]
  have e5 : x.labs = y.labs := show x.logic.labs = y.logic.labs by rw [h]
  refine ⟨?_, e1, e3, e2, e4, e5⟩
  rw [← cfR_logic, h, cfR_logic]
  exact cfR_self y

set_option maxRecDepth 100000 in
set_option maxHeartbeats 3200000 in
theorem sameRowsL_calls (w : World) {B1 B2 c1 c2 : Nat} {A1 A2 : Option Addr} {l m : List Rw} (h1 : Rows w B1 A1 l) (h2 : Rows w B2 A2 m) (hB1 : B1 ≤ w.heap.size) (hB2 : B2 ≤ w.heap.size) (hs : SameL l m) (hn : l.length ≤ 4398046511104) :
    Calls Try.prog 24 #[.slice A1 l.length c1, .slice A2 m.length c2] w fun e w' => e = .returned (.bool true) ∧ Below w.heap.size w w' := by
  have hne : ((l.length : Int) != (l.length : Int)) = false := nef rfl
  have H1 := Lib.hid h1
  have H2 := Lib.hid h2
  have HS := Lib.hid hs
  have HLN := Lib.hid hs.len
  rw [← hs.len]
  clear h1 h2 hs
  go_enter Try.func24, Try.ntmps24
  go_wp2
  go_loopw [13] (fun i wr => ∃ k : Nat, k ≤ l.length ∧ i = .int .i64 (k : Int) ∧ Below w.heap.size w wr) (fun i _ => l.length - (intOf i).toNat)
  case atStart => exact ⟨0, Nat.zero_le _, rfl, Below.refl _ _⟩
  case round =>
    obtain ⟨k, hk, rfl, hbel⟩ := hrel
    by_cases hlt : k < l.length
    · have hsz := hbel.size
      have r1 := H1.out.below (hbel.mono hB1)
      have r2 := H2.out.below (hbel.mono hB2)
      obtain ⟨g1, o1, e1, hg1, _⟩ := reads_nine r1.reads (by omega)
      obtain ⟨g2, o2, e2, hg2, _⟩ := reads_nine r2.reads (by rw [← HLN.out]; omega)
      have Hkeep : Hid (∀ W, Below wr.heap.size wr W → (W.cell? ⟨g1, o1 + k * 9, none⟩ = some (.int .i64 (Sr.gt l k).kind) ∧ W.cell? ⟨g1, o1 + k * 9 + 1, none⟩ = some (.int .i64 (Sr.gt l k).time) ∧ W.cell? ⟨g1, o1 + k * 9 + 2, none⟩ = some (.slice (Sr.gt l k).A (Sr.gt l k).labs.length (Sr.gt l k).cp) ∧ W.cell? ⟨g1, o1 + k * 9 + 3, none⟩ = some (.string (Sr.gt l k).text) ∧ W.cell? ⟨g1, o1 + k * 9 + 4, none⟩ = some (.int .i64 (Sr.gt l k).value) ∧ W.cell? ⟨g1, o1 + k * 9 + 5, none⟩ = some (.bool (Sr.gt l k).null) ∧ W.cell? ⟨g1, o1 + k * 9 + 6, none⟩ = some (.int .i64 (Sr.gt l k).maker) ∧ W.cell? ⟨g1, o1 + k * 9 + 7, none⟩ = some (.int .i64 (Sr.gt l k).seq) ∧ W.cell? ⟨g1, o1 + k * 9 + 8, none⟩ = some (.int .i64 (Sr.gt l k).place)) ∧ W.cell? ⟨g2, o2 + k * 9, none⟩ = some (.int .i64 (Sr.gt m k).kind) ∧ W.cell? ⟨g2, o2 + k * 9 + 1, none⟩ = some (.int .i64 (Sr.gt m k).time) ∧ W.cell? ⟨g2, o2 + k * 9 + 2, none⟩ = some (.slice (Sr.gt m k).A (Sr.gt m k).labs.length (Sr.gt m k).cp) ∧ W.cell? ⟨g2, o2 + k * 9 + 3, none⟩ = some (.string (Sr.gt m k).text) ∧ W.cell? ⟨g2, o2 + k * 9 + 4, none⟩ = some (.int .i64 (Sr.gt m k).value) ∧ W.cell? ⟨g2, o2 + k * 9 + 5, none⟩ = some (.bool (Sr.gt m k).null) ∧ W.cell? ⟨g2, o2 + k * 9 + 6, none⟩ = some (.int .i64 (Sr.gt m k).maker) ∧ W.cell? ⟨g2, o2 + k * 9 + 7, none⟩ = some (.int .i64 (Sr.gt m k).seq) ∧ W.cell? ⟨g2, o2 + k * 9 + 8, none⟩ = some (.int .i64 (Sr.gt m k).place)) := Lib.hid fun W hW => ⟨reads_nine_at (r1.reads.below (hW.mono (by omega))) e1 hlt, reads_nine_at (r2.reads.below (hW.mono (by omega))) e2 (by rw [← HLN.out]; exact hlt)⟩
      have k1 := r1.each _ (show Sr.gt l k ∈ l by rw [← Sr.gt_eq hlt]; exact List.getElem_mem _)
      have k2 := r2.each _ (show Sr.gt m k ∈ m by rw [← Sr.gt_eq (by rw [← HLN.out]; exact hlt)]; exact List.getElem_mem _)
      have hS := fun W (hW : Below wr.heap.size wr W) => sameRwR_calls W (Sr.gt l k) (Sr.gt m k) (k1.labs.below (hW.mono (by omega))) (k2.labs.below (hW.mono (by omega))) (by have := hW.size; omega) (by have := hW.size; omega) k1.len k2.len
      have hv : sameRwB (Sr.gt l k) (Sr.gt m k) = true := dct (same_logic (HS.out.at_ hlt))
      rw [hv] at hS
      unfold rwA at hS
      clear r1 r2 k1 k2 hv
      generalize Sr.gt l k = x at *
      generalize Sr.gt m k = y at *
      subst e1 e2
      have HSS := Lib.hid hS
      have i0 : (0 : Int) ≤ (k : Int) := by omega
      have i9 : (k : Int) < (l.length : Int) := by omega
      obtain ⟨⟨p0, p1, p2, p3, p4, p5, p6, p7, p8⟩, q0, q1, q2, q3, q4, q5, q6, q7, q8⟩ := Hkeep.out wr (Below.refl _ _)
      clear hS
      go_wp2_with fail
      go_region_held3 (fun w' => (w'.cell? ⟨g1, o1 + k * 9, none⟩ = some (.int .i64 x.kind) ∧ w'.cell? ⟨g1, o1 + k * 9 + 1, none⟩ = some (.int .i64 x.time) ∧ w'.cell? ⟨g1, o1 + k * 9 + 2, none⟩ = some (.slice x.A x.labs.length x.cp) ∧ w'.cell? ⟨g1, o1 + k * 9 + 3, none⟩ = some (.string x.text) ∧ w'.cell? ⟨g1, o1 + k * 9 + 4, none⟩ = some (.int .i64 x.value) ∧ w'.cell? ⟨g1, o1 + k * 9 + 5, none⟩ = some (.bool x.null) ∧ w'.cell? ⟨g1, o1 + k * 9 + 6, none⟩ = some (.int .i64 x.maker) ∧ w'.cell? ⟨g1, o1 + k * 9 + 7, none⟩ = some (.int .i64 x.seq) ∧ w'.cell? ⟨g1, o1 + k * 9 + 8, none⟩ = some (.int .i64 x.place)) ∧ w'.cell? ⟨g2, o2 + k * 9, none⟩ = some (.int .i64 y.kind) ∧ w'.cell? ⟨g2, o2 + k * 9 + 1, none⟩ = some (.int .i64 y.time) ∧ w'.cell? ⟨g2, o2 + k * 9 + 2, none⟩ = some (.slice y.A y.labs.length y.cp) ∧ w'.cell? ⟨g2, o2 + k * 9 + 3, none⟩ = some (.string y.text) ∧ w'.cell? ⟨g2, o2 + k * 9 + 4, none⟩ = some (.int .i64 y.value) ∧ w'.cell? ⟨g2, o2 + k * 9 + 5, none⟩ = some (.bool y.null) ∧ w'.cell? ⟨g2, o2 + k * 9 + 6, none⟩ = some (.int .i64 y.maker) ∧ w'.cell? ⟨g2, o2 + k * 9 + 7, none⟩ = some (.int .i64 y.seq) ∧ w'.cell? ⟨g2, o2 + k * 9 + 8, none⟩ = some (.int .i64 y.place)) (exact Hkeep.out _ (by first | assumption | exact below_drewN_ (Below.refl _ _) 1)) ((go_at_call 25; refine (HSS.out _ (below_drewN_ (Below.refl _ _) 1)).mono ?_; rintro e w2 ⟨rfl, hb2⟩; have he2 : Below wr.heap.size wr w2 := (below_drewN_ (Below.refl _ _) 1).trans hb2))
      go_wp2
      go_roundw
      case rel => exact ⟨k + 1, by omega, by go_num, hbel.trans (he2.mono hsz)⟩
      case measure => simp [intOf]; omega
    · obtain rfl : k = l.length := by omega
      go_wp2
      go_ret
      exact ⟨rfl, hbel⟩
end Go.Proofs.Ytophfgijfmdbcaa

namespace Go.Proofs.Ytophfgijfmdbcaa
open Go.RowKit Go.Proofs.Ytophfgijfmdbcaa.So

/-- A comparison that tells less, equal, greater rightly. -/
structure Tri {α : Type} (f : α → α → Int) : Prop where
  anti : ∀ x y, f y x = - f x y
  tr : ∀ x y z, f x y ≤ 0 → f y z ≤ 0 → f x z ≤ 0
section
variable {α β : Type}
theorem Tri.swo {f : α → α → Int} (h : Tri f) {lt : α → α → Bool} (hl : ∀ x y, lt x y = decide (f x y < 0)) : Swo lt where
  irr x := by
    rw [hl]
    have := h.anti x x
    exact dcf (by omega)
  trans x y z h1 h2 := by
    rw [hl, decide_eq_true_iff] at *
    have a1 := h.anti x y
    have a2 := h.anti y z
    have a3 := h.anti x z
    have t1 := h.tr x y z (by omega) (by omega)
    by_cases e : f x z = 0
    · have t2 := h.tr z x y (by omega) (by omega)
      omega
    · omega
  neg x y z h1 h2 := by
    rw [hl, decide_eq_false_iff_not] at *
    have a1 := h.anti x y
    have a2 := h.anti y z
    have a3 := h.anti x z
    have t1 := h.tr z y x (by omega) (by omega)
    omega
theorem Tri.lex {f g : α → α → Int} (hf : Tri f) (hg : Tri g) : Tri fun x y => if f x y = 0 then g x y else f x y where
  anti x y := by
    have a1 := hf.anti x y
    have a2 := hg.anti x y
    by_cases e : f x y = 0
    · rw [if_pos e, if_pos (by omega)]; exact a2
    · rw [if_neg e, if_neg (by omega)]; exact a1
  tr x y z h1 h2 := by
    have a1 := hf.anti x y
    have a2 := hf.anti y z
    have a3 := hf.anti x z
    have l1 : f x y ≤ 0 := by
      by_cases e : f x y = 0
      · omega
      · rw [if_neg e] at h1; exact h1
    have l2 : f y z ≤ 0 := by
      by_cases e : f y z = 0
      · omega
      · rw [if_neg e] at h2; exact h2
    have l3 := hf.tr x y z l1 l2
    by_cases e : f x z = 0
    · rw [if_pos e]
      have t1 := hf.tr y z x l2 (by omega)
      have t2 := hf.tr z x y (by omega) l1
      rw [if_pos (by omega)] at h1 h2
      exact hg.tr x y z h1 h2
    · rw [if_neg e]; exact l3
theorem Tri.on {f : β → β → Int} (h : Tri f) (k : α → β) : Tri fun x y => f (k x) (k y) := ⟨fun x y => h.anti _ _, fun x y z => h.tr _ _ _⟩
end
theorem triI : Tri cmpI where
  anti x y := by unfold cmpI; repeat' split <;> omega
  tr x y z h1 h2 := by
    unfold cmpI at *
    by_cases p1 : x < z
    · rw [if_pos p1]; omega
    · rw [if_neg p1]
      by_cases p2 : z < x
      · exfalso
        by_cases q1 : x < y
        · rw [if_neg (by omega), if_pos (by omega)] at h2; omega
        · rw [if_neg q1] at h1
          by_cases q2 : y < x
          · rw [if_pos q2] at h1; omega
          · rw [if_neg (by omega), if_pos (by omega)] at h2; omega
      · rw [if_neg p2]; omega
theorem orI4 (a b c d : Int) : orI [a, b, c, d] = if a = 0 then (if b = 0 then (if c = 0 then d else c) else b) else a := by
  simp only [orI]
  by_cases h1 : a = 0
  · by_cases h2 : b = 0
    · by_cases h3 : c = 0
      · by_cases h4 : d = 0
        · simp [h1, h2, h3, h4]
        · simp [h1, h2, h3, h4]
      · simp [h1, h2, h3]
    · simp [h1, h2]
  · simp [h1]
end Go.Proofs.Ytophfgijfmdbcaa

namespace Go.Proofs.Ytophfgijfmdbcaa
open Go.RowKit

theorem blk_full9 {w : World} {g : Nat} {t : TypeId} {z0 z1 z2 z3 z4 z5 z6 z7 z8 v0 v1 v2 v3 v4 v5 v6 v7 v8 : Value} (h : Blk w g t #[z0, z1, z2, z3, z4, z5, z6, z7, z8]) :
    Blk (((((((((w.setCell ⟨g, 0, none⟩ v0).setCell ⟨g, 1, none⟩ v1).setCell ⟨g, 2, none⟩ v2).setCell ⟨g, 3, none⟩ v3).setCell ⟨g, 4, none⟩ v4).setCell ⟨g, 5, none⟩ v5).setCell ⟨g, 6, none⟩ v6).setCell ⟨g, 7, none⟩ v7).setCell ⟨g, 8, none⟩ v8) g t #[v0, v1, v2, v3, v4, v5, v6, v7, v8] := by
  have h' := (((((((((h.set_ 0 v0).set_ 1 v1).set_ 2 v2).set_ 3 v3).set_ 4 v4).set_ 5 v5).set_ 6 v6).set_ 7 v7).set_ 8 v8)
  simp only [List.setIfInBounds_toArray, List.set_cons_zero, List.set_cons_succ] at h'
  exact h'

theorem row_kept {w : World} {base : Nat} {e : TypeId} {n m : Nat} {v : Value} {xs : List Value} (h : w.ownsRow base e m v n xs) {p : Addr} (hp : p.block < base) (u : Value) : (w.setCell p u).ownsRow base e m v n xs :=
  own_only h ((Only.refl p.block w).setCell (.inl rfl) u) hp

set_option maxRecDepth 100000 in
theorem clone_calls (w : World) {B c : Nat} {A : Option Addr} {l : List Lab} (h : Labs w B A l) (hB : B ≤ w.heap.size) (hn : l.length ≤ 4398046511104) :
    Calls Try.prog 57 #[.slice A l.length c] w fun e w' => ∃ A' c', e = .returned (.slice A' l.length c') ∧ w'.ownsRow w.heap.size 95 2 (.slice A' l.length c') l.length (labCells l) ∧ Below w.heap.size w w' := by
  have hq := fun W => Lib.run_eql_slice_nil (P := Try.prog) W 54 95 A l.length c 0 0 Try.underlying54
  rcases A with _ | ad
  · have hl : l = [] := by
      rcases Nat.eq_zero_or_pos l.length with h0 | h0
      · exact List.eq_nil_of_length_eq_zero h0
      · obtain ⟨b, off, e, _⟩ := h.2 h0
        cases e
    have HL := Lib.hid hl
    clear hl
    have hq2 : ∀ W, (binOp .eql 54 (.slice none l.length c) (.slice none 0 0)).run Try.prog W = .ok (.bool true) W := fun W => by rw [hq]; rfl
    clear hq
    go_enter Try.func57, Try.ntmps57
    go_wp2
    go_ret
    exact ⟨none, 0, by rw [HL.out]; rfl, by rw [HL.out]; exact World.ownsRow_nil _ _ _ _, Below.refl _ _⟩
  · have hq2 : ∀ W, (binOp .eql 54 (.slice (some ad) l.length c) (.slice none 0 0)).run Try.prog W = .ok (.bool false) W := fun W => by rw [hq]; rfl
    clear hq
    go_enter Try.func57, Try.ntmps57
    go_wp2_with (at_builtin; go_must (refine wpList_append_sl _ rfl (.tmp 5) (.tmp 6) _ rfl w.heap.size 95 _ 2 32 Try.underlying54 Try.infoLab rfl (by omega) _ _ _ rfl (World.ownsRow_made w #[] 0 (Nat.le_refl _) (Nat.zero_le _) rfl) B (some ad) l.length c (labCells l) rfl (Reads.to h ((Below.refl B w).alloc hB _) (Nat.le_refl _)) (labCells_one l) (by unfold maxLen; omega) (by omega) (by simp) ?_))
    intro A' c' w1 hc1 hc2 hrd hbel hown _ _
    have hown2 : w1.ownsRow w.heap.size 95 2 (.slice A' l.length c') l.length (labCells l) := by simpa using hown
    go_wp2
    go_ret
    exact ⟨A', c', by simp, hown2, ((Below.refl _ _).alloc (Nat.le_refl _) _).trans hbel⟩

def Rec.row (r : Rec) (A : Option Addr) (c : Nat) (maker seq place : Int) : Array Value := #[.int .i64 r.kind, .int .i64 r.time, .slice A r.labs.length c, .string r.text, .int .i64 r.value, .bool r.null, .int .i64 maker, .int .i64 seq, .int .i64 place]

set_option maxRecDepth 100000 in
set_option maxHeartbeats 800000 in
theorem rtwin_calls (w : World) {B : Nat} (r : Rec) (maker seq place : Int) (h : Labs w B r.A r.labs) (hB : B ≤ w.heap.size) (hn : r.labs.length ≤ 4398046511104) :
    Calls Try.prog 53 #[.agg (r.row r.A r.c maker seq place)] w fun e w' => ∃ A' c', e = .returned (.agg (r.row A' c' maker seq place)) ∧ w'.ownsRow w.heap.size 95 2 (.slice A' r.labs.length c') r.labs.length (labCells r.labs) ∧ Below w.heap.size w w' := by
  unfold Rec.row
  obtain ⟨kind, time, A, c, labs, text, value, null⟩ := r
  simp only at h hn ⊢
  go_enter Try.func53, Try.ntmps53
  go_wp2_with fail
  refine (clone_calls _ (h.below (((Below.refl B w).alloc hB _).alloc (by simp; omega) _)) (by simp; omega) hn).mono ?_
  rintro e w1 ⟨A', c', rfl, hown, hb1⟩
  have hb2 := (Blk.new (w.alloc (.cells #[.int .i64 kind, .int .i64 time, .slice A labs.length c, .string text, .int .i64 value, .bool null, .int .i64 maker, .int .i64 seq, .int .i64 place] 58)) 58 #[.int .i64 0, .int .i64 0, .slice none 0 0, .string ⟨#[]⟩, .int .i64 0, .bool false, .int .i64 0, .int .i64 0, .int .i64 0]).below hb1 (by simp)
  have hb3 := ((Blk.new w 58 #[.int .i64 kind, .int .i64 time, .slice A labs.length c, .string text, .int .i64 value, .bool null, .int .i64 maker, .int .i64 seq, .int .i64 place]).alloc (.cells #[.int .i64 0, .int .i64 0, .slice none 0 0, .string ⟨#[]⟩, .int .i64 0, .bool false, .int .i64 0, .int .i64 0, .int .i64 0] 58)).below hb1 (by simp; omega)
  have es : (w.alloc (.cells #[.int .i64 kind, .int .i64 time, .slice A labs.length c, .string text, .int .i64 value, .bool null, .int .i64 maker, .int .i64 seq, .int .i64 place] 58)).heap.size = w.heap.size + 1 := by simp
  rw [es] at hb2
  have y0 := hb3.cell 0
  have y1 := hb3.cell 1
  have y2 := hb3.cell 2
  have y3 := hb3.cell 3
  have y4 := hb3.cell 4
  have y5 := hb3.cell 5
  have y6 := hb3.cell 6
  have y7 := hb3.cell 7
  have y8 := hb3.cell 8
  have f2 := hb3.frozen 2
  have z0 := hb2.cell 0
  have z1 := hb2.cell 1
  have z2 := hb2.cell 2
  have z3 := hb2.cell 3
  have z4 := hb2.cell 4
  have z5 := hb2.cell 5
  have z6 := hb2.cell 6
  have z7 := hb2.cell 7
  have z8 := hb2.cell 8
  have g0 := hb2.frozen 0
  have g1 := hb2.frozen 1
  have g2 := hb2.frozen 2
  have g3 := hb2.frozen 3
  have g4 := hb2.frozen 4
  have g5 := hb2.frozen 5
  have g6 := hb2.frozen 6
  have g7 := hb2.frozen 7
  have g8 := hb2.frozen 8
  simp only [List.getElem?_toArray, List.getElem?_cons_zero, List.getElem?_cons_succ] at y0 y1 y2 y3 y4 y5 y6 y7 y8 z0 z1 z2 z3 z4 z5 z6 z7 z8
  go_wp2
  have hw := blk_full9 (v0 := .int .i64 kind) (v1 := .int .i64 time) (v2 := .slice A' labs.length c') (v3 := .string text) (v4 := .int .i64 value) (v5 := .bool null) (v6 := .int .i64 maker) (v7 := .int .i64 seq) (v8 := .int .i64 place) (hb2.far (p := ⟨w.heap.size, 2, none⟩) (by simp) (.slice A' labs.length c'))
  have hsz := hb1.size
  simp only [World.size_alloc] at hsz
  have hbel := (((Below.refl w.heap.size w).alloc (Nat.le_refl _) _).alloc (by simp) _).trans (hb1.mono (by simp; omega))
  refine bodyPost_ret (results_cell_row rfl _ _ (w.heap.size + 1) 58 #[.int .i64 kind, .int .i64 time, .slice A' labs.length c', .string text, .int .i64 value, .bool null, .int .i64 maker, .int .i64 seq, .int .i64 place] (0, 0) _ rfl hw Try.underlying58 rfl (by kernel_rfl)) rfl ?_
  refine ⟨A', c', rfl, ?_, ?_⟩
  · have hown1 := hown
    exact own_base (row_kept (row_kept (row_kept (row_kept (row_kept (row_kept (row_kept (row_kept (row_kept (row_kept hown1 (by simp <;> omega) _) (by simp <;> omega) _) (by simp <;> omega) _) (by simp <;> omega) _) (by simp <;> omega) _) (by simp <;> omega) _) (by simp <;> omega) _) (by simp <;> omega) _) (by simp <;> omega) _) (by simp <;> omega) _) (by simp; omega)
  · exact (Below.setCell (Below.setCell (Below.setCell (Below.setCell (Below.setCell (Below.setCell (Below.setCell (Below.setCell (Below.setCell (Below.setCell hbel (by simp) _) (by simp) _) (by simp) _) (by simp) _) (by simp) _) (by simp) _) (by simp) _) (by simp) _) (by simp) _) (by simp) _)

theorem blk_full6 {w : World} {g : Nat} {t : TypeId} {z0 z1 z2 z3 z4 z5 v0 v1 v2 v3 v4 v5 : Value} (h : Blk w g t #[z0, z1, z2, z3, z4, z5]) :
    Blk ((((((w.setCell ⟨g, 0, none⟩ v0).setCell ⟨g, 1, none⟩ v1).setCell ⟨g, 2, none⟩ v2).setCell ⟨g, 3, none⟩ v3).setCell ⟨g, 4, none⟩ v4).setCell ⟨g, 5, none⟩ v5) g t #[v0, v1, v2, v3, v4, v5] := by
  have h' := ((((((h.set_ 0 v0).set_ 1 v1).set_ 2 v2).set_ 3 v3).set_ 4 v4).set_ 5 v5)
  simp only [List.setIfInBounds_toArray, List.set_cons_zero, List.set_cons_succ] at h'
  exact h'

set_option maxRecDepth 100000 in
set_option maxHeartbeats 800000 in
theorem rtwinR_calls (w : World) {B : Nat} (r : Rec) (h : Labs w B r.A r.labs) (hB : B ≤ w.heap.size) (hn : r.labs.length ≤ 4398046511104) :
    Calls Try.prog 36 #[r.agg] w fun e w' => ∃ A' c', e = .returned (Rec.agg { r with A := A', c := c' }) ∧ w'.ownsRow w.heap.size 95 2 (.slice A' r.labs.length c') r.labs.length (labCells r.labs) ∧ Below w.heap.size w w' := by
  unfold Rec.agg
  obtain ⟨kind, time, A, c, labs, text, value, null⟩ := r
  simp only at h hn ⊢
  go_enter Try.func36, Try.ntmps36
  go_wp2_with fail
  refine (twin_calls _ (h.below (((Below.refl B w).alloc hB _).alloc (by simp; omega) _)) (by simp; omega) hn).mono ?_
  rintro e w1 ⟨A', c', rfl, _, hown, hb1⟩
  have hb2 := (Blk.new (w.alloc (.cells #[.int .i64 kind, .int .i64 time, .slice A labs.length c, .string text, .int .i64 value, .bool null] 56)) 56 #[.int .i64 0, .int .i64 0, .slice none 0 0, .string ⟨#[]⟩, .int .i64 0, .bool false]).below hb1 (by simp)
  have hb3 := ((Blk.new w 56 #[.int .i64 kind, .int .i64 time, .slice A labs.length c, .string text, .int .i64 value, .bool null]).alloc (.cells #[.int .i64 0, .int .i64 0, .slice none 0 0, .string ⟨#[]⟩, .int .i64 0, .bool false] 56)).below hb1 (by simp; omega)
  have es : (w.alloc (.cells #[.int .i64 kind, .int .i64 time, .slice A labs.length c, .string text, .int .i64 value, .bool null] 56)).heap.size = w.heap.size + 1 := by simp
  rw [es] at hb2
  have y0 := hb3.cell 0
  have y1 := hb3.cell 1
  have y2 := hb3.cell 2
  have y3 := hb3.cell 3
  have y4 := hb3.cell 4
  have y5 := hb3.cell 5
  have f2 := hb3.frozen 2
  have z0 := hb2.cell 0
  have z1 := hb2.cell 1
  have z2 := hb2.cell 2
  have z3 := hb2.cell 3
  have z4 := hb2.cell 4
  have z5 := hb2.cell 5
  have g0 := hb2.frozen 0
  have g1 := hb2.frozen 1
  have g2 := hb2.frozen 2
  have g3 := hb2.frozen 3
  have g4 := hb2.frozen 4
  have g5 := hb2.frozen 5
  simp only [List.getElem?_toArray, List.getElem?_cons_zero, List.getElem?_cons_succ] at y0 y1 y2 y3 y4 y5 z0 z1 z2 z3 z4 z5
  go_wp2
  have hw := blk_full6 (v0 := .int .i64 kind) (v1 := .int .i64 time) (v2 := .slice A' labs.length c') (v3 := .string text) (v4 := .int .i64 value) (v5 := .bool null) (hb2.far (p := ⟨w.heap.size, 2, none⟩) (by simp) (.slice A' labs.length c'))
  have hsz := hb1.size
  simp only [World.size_alloc] at hsz
  have hbel := (((Below.refl w.heap.size w).alloc (Nat.le_refl _) _).alloc (by simp) _).trans (hb1.mono (by simp; omega))
  refine bodyPost_ret (results_cell_row rfl _ _ (w.heap.size + 1) 56 #[.int .i64 kind, .int .i64 time, .slice A' labs.length c', .string text, .int .i64 value, .bool null] (0, 0) _ rfl hw Try.underlying56 rfl (by kernel_rfl)) rfl ?_
  refine ⟨A', c', rfl, ?_, ?_⟩
  · have hown1 := hown
    exact own_base (row_kept (row_kept (row_kept (row_kept (row_kept (row_kept (row_kept hown1 (by simp <;> omega) _) (by simp <;> omega) _) (by simp <;> omega) _) (by simp <;> omega) _) (by simp <;> omega) _) (by simp <;> omega) _) (by simp <;> omega) _) (by simp; omega)
  · exact (Below.setCell (Below.setCell (Below.setCell (Below.setCell (Below.setCell (Below.setCell (Below.setCell hbel (by simp) _) (by simp) _) (by simp) _) (by simp) _) (by simp) _) (by simp) _) (by simp) _)
theorem Try.infoRow : (Try.prog.info? 58).map (fun i => (i.zero, i.size, i.bytes)) = some (some (.agg #[.int .i64 0, .int .i64 0, .slice none 0 0, .string ⟨#[]⟩, .int .i64 0, .bool false, .int .i64 0, .int .i64 0, .int .i64 0]), 9, 96) := by kernel_rfl

theorem own_other {w w' : World} {b1 b2 s1 s2 n1 n2 : Nat} {e1 e2 : TypeId} {v1 v2 : Value} {xs1 xs2 : List Value} (h : w.ownsRow b1 e1 s1 v1 n1 xs1) (h2 : w.ownsRow b2 e2 s2 v2 n2 xs2) (hne : e1 ≠ e2) (hg : w.grownBy w' v2.ownBlock) : w'.ownsRow b1 e1 s1 v1 n1 xs1 := by
  refine h.kept hg ?_
  rcases h.2 with ⟨rfl, _⟩ | ⟨g, cap, cur, rfl, _, hgg, _⟩
  · exact .inl rfl
  · right
    intro e
    rcases h2.2 with ⟨rfl, _⟩ | ⟨g', cap', cur', rfl, _, hgg', _⟩
    · cases e
    · have : g = g' := by injection e
      subst this
      rw [hgg] at hgg'
      injection hgg' with h3
      injection h3 with h4 h5
      exact hne h5

end Go.Proofs.Ytophfgijfmdbcaa

namespace Go.Proofs.Ytophfgijfmdbcaa
open Go.RowKit Go.Proofs.Ytophfgijfmdbcaa.So

/-- All that a row holds can be counted. -/
structure FitW (x : Rw) : Prop where
  fit : Fit x.labs
  len : x.labs.length ≤ 4398046511104
  text : x.text.size ≤ 140737488351232
  time : -9223372036854775808 ≤ x.time ∧ x.time ≤ 9223372036854775807
  value : -9223372036854775808 ≤ x.value ∧ x.value ≤ 9223372036854775807
theorem Rows.fits {w : World} {B : Nat} {A : Option Addr} {l : List Rw} (h : Rows w B A l) : ∀ x ∈ l, FitW x := fun x hx => ⟨(h.each x hx).fit, (h.each x hx).len, (h.each x hx).text, (h.each x hx).time, (h.each x hx).value⟩
theorem FitW.same {x y : Rw} (h : FitW x) (he : x.logic = y.logic) : FitW y := by
  have h1 : FitW x.logic := ⟨h.fit, h.len, h.text, h.time, h.value⟩
  rw [he] at h1
  exact ⟨h1.fit, h1.len, h1.text, h1.time, h1.value⟩
theorem SameL.fits {l m : List Rw} (h : SameL l m) (hf : ∀ x ∈ l, FitW x) : ∀ x ∈ m, FitW x := by
  intro x hx
  have h1 : x.logic ∈ l.map Rw.logic := by
    rw [show l.map Rw.logic = m.map Rw.logic from h]
    exact List.mem_map_of_mem hx
  obtain ⟨y, hy, e⟩ := List.mem_map.1 h1
  exact (hf y hy).same e
/-- Rows in memory of their own, their labels too. -/
structure RowsO (w : World) (base : Nat) (v : Value) (d : List Rw) : Prop where
  own : w.ownsRow base 58 9 v d.length (Sr.flat Rw.c d)
  each : ∀ x ∈ d, w.ownsRow base 95 2 (.slice x.A x.labs.length x.cp) x.labs.length (labCells x.labs)
section
variable {w w' : World} {base base' : Nat} {v v' : Value} {d : List Rw}
theorem RowsO.below (h : RowsO w base v d) (hb : Below w.heap.size w w') : RowsO w' base v d := ⟨own_below h.own hb, fun x hx => own_below (h.each x hx) hb⟩
theorem RowsO.low (h : RowsO w base v d) (hb : base' ≤ base) : RowsO w base' v d := ⟨own_base h.own hb, fun x hx => own_base (h.each x hx) hb⟩
theorem RowsO.nil (w : World) (base : Nat) : RowsO w base (.slice none 0 0) [] := ⟨World.ownsRow_nil _ _ _ _, fun x hx => absurd hx (by simp)⟩
theorem RowsO.snoc {x : Rw} (h : RowsO w base v d) (hp : w.ownsRow base 95 2 (.slice x.A x.labs.length x.cp) x.labs.length (labCells x.labs))
    (hown : w'.ownsRow base 58 9 v' (d.length + 1) (Sr.flat Rw.c d ++ Sr.nine Rw.c x)) (hg : w.grownBy w' v.ownBlock) : RowsO w' base v' (d ++ [x]) := by
  refine ⟨?_, fun y hy => ?_⟩
  · rw [Sr.flat_app, List.length_append, show Sr.flat Rw.c [x] = Sr.nine Rw.c x from by simp [Sr.flat]]
    exact hown
  · rcases List.mem_append.1 hy with h1 | h1
    · exact own_other (h.each y h1) h.own (by decide) hg
    · obtain rfl := List.mem_singleton.1 h1
      exact own_other hp h.own (by decide) hg
theorem RowsO.rows {A : Option Addr} {c : Nat} (h : RowsO w base (.slice A d.length c) d) (hf : ∀ x ∈ d, FitW x) : Rows w w.heap.size A d :=
  ⟨Reads.of_own h.own, fun x hx => ⟨Reads.of_own (h.each x hx), (hf x hx).fit, (hf x hx).len, (hf x hx).text, (hf x hx).time, (hf x hx).value⟩⟩
end
theorem nine_one (x : Rw) : ∀ u ∈ Sr.nine Rw.c x, u.oneCell' = true := by
  intro u hu
  simp [Sr.nine] at hu
  rcases hu with rfl | rfl | rfl | rfl | rfl | rfl | rfl | rfl | rfl <;> exact Rw.one x _
theorem twinRw_calls (w : World) {B : Nat} (x : Rw) (h : Labs w B x.A x.labs) (hB : B ≤ w.heap.size) (hn : x.labs.length ≤ 4398046511104) :
    Calls Try.prog 53 #[rwA x] w fun e w' => ∃ A' c', e = .returned (rwA { x with A := A', cp := c' }) ∧ w'.ownsRow w.heap.size 95 2 (.slice A' x.labs.length c') x.labs.length (labCells x.labs) ∧ Below w.heap.size w w' :=
  rtwin_calls w ⟨x.kind, x.time, x.A, x.cp, x.labs, x.text, x.value, x.null⟩ x.maker x.seq x.place h hB hn

/- The order. -/
theorem triR : Tri cfR := by
  have h : Tri fun x y : Rw => if cmpI x.time y.time = 0 then (if cmpI x.maker y.maker = 0 then (if cmpI x.seq y.seq = 0 then cmpI x.place y.place else cmpI x.seq y.seq) else cmpI x.maker y.maker) else cmpI x.time y.time :=
    (triI.on Rw.time).lex ((triI.on Rw.maker).lex ((triI.on Rw.seq).lex (triI.on Rw.place)))
  have e : cfR = fun x y : Rw => if cmpI x.time y.time = 0 then (if cmpI x.maker y.maker = 0 then (if cmpI x.seq y.seq = 0 then cmpI x.place y.place else cmpI x.seq y.seq) else cmpI x.maker y.maker) else cmpI x.time y.time := by
    funext x y
    exact orI4 _ _ _ _
  rw [e]
  exact h
theorem swoR : Swo (Sr.ltc cfR) := triR.swo fun _ _ => rfl
theorem ltc_logic (x y : Rw) : Sr.ltc cfR x.logic y.logic = Sr.ltc cfR x y := rfl
theorem mg_logic : ∀ (l r : List Rw), (mg (Sr.ltc cfR) l r).map Rw.logic = mg (Sr.ltc cfR) (l.map Rw.logic) (r.map Rw.logic)
  | [], r => by rw [mg_nil_l, List.map_nil, mg_nil_l]
  | a :: l, [] => by rw [mg_nil, List.map_nil, mg_nil]
  | a :: l, b :: r => by
    have h1 := mg_logic l (b :: r)
    have h2 := mg_logic (a :: l) r
    simp only [List.map_cons] at h1 h2 ⊢
    unfold mg
    rw [ltc_logic]
    split
    · rw [List.map_cons, h2]
    · rw [List.map_cons, h1]
theorem isort_logic (l : List Rw) : (isort (Sr.ltc cfR) l).map Rw.logic = isort (Sr.ltc cfR) (l.map Rw.logic) := by
  refine snoc_ind (p := fun l => (isort (Sr.ltc cfR) l).map Rw.logic = isort (Sr.ltc cfR) (l.map Rw.logic)) rfl (fun l x h => ?_) l
  rw [isort_snoc, mg_logic, h, List.map_append, List.map_cons, List.map_nil, isort_snoc]
theorem SameL.sorted {l m : List Rw} (h : SameL l m) : SameL (isort (Sr.ltc cfR) l) (isort (Sr.ltc cfR) m) := by
  show List.map _ _ = List.map _ _
  rw [isort_logic, isort_logic, show l.map Rw.logic = m.map Rw.logic from h]

set_option maxRecDepth 100000 in
theorem sortR_calls (N : Nat) (base g cap : Nat) (w : World) (D0 : List Rw) (h : Sr.RowE Rw.c w base g cap D0) (hN : D0.length = N) (hd : N ≤ 1099511627776) :
    Calls Try.prog 54 #[.slice (some ⟨g, 0, none⟩) N cap, .func (.func 39) #[] #[]] w fun e w' =>
      e = .returned (.tuple #[]) ∧ Sr.RowE Rw.c w' base g cap (isort (Sr.ltc cfR) D0) ∧ Only g w w' :=
  Sr.sortStable_calls Rw.c Rw.one cfR 39 (fun W x y => cmpRw_calls W x y) (enters_of Try.func39 (by kernel_rfl) rfl) swoR N base g cap w D0 h hN hd
set_option maxRecDepth 100000 in
theorem insR_nil (w : World) (fv : Value) (c : Nat) :
    Calls Try.prog 60 #[.slice none 0 c, .int .i64 0, .int .i64 0, fv] w fun e w' => e = .returned (.tuple #[]) ∧ Below w.heap.size w w' := by
  go_enter Try.func60, Try.ntmps60
  go_wp2
  go_loopw [8] (fun i wr => i = .int .i64 1 ∧ wr = w) (fun _ _ => 0)
  case atStart => exact ⟨rfl, rfl⟩
  case round =>
    obtain ⟨rfl, rfl⟩ := hrel
    go_wp2
    go_end0
    exact ⟨rfl, Below.refl _ _⟩
set_option maxRecDepth 100000 in
theorem stableR_nil (w : World) (fv : Value) (c : Nat) :
    Calls Try.prog 58 #[.slice none 0 c, .int .i64 0, fv] w fun e w' => e = .returned (.tuple #[]) ∧ Below w.heap.size w w' := by
  have HI := Lib.hid (insR_nil w fv c)
  go_enter Try.func58, Try.ntmps58
  go_wp2
  go_loopw [7, 8] (fun a b wr => a = .int .i64 0 ∧ b = .int .i64 20 ∧ wr = w) (fun _ _ _ => 0)
  case atStart => exact ⟨rfl, rfl, rfl⟩
  case round =>
    obtain ⟨rfl, rfl, rfl⟩ := hrel
    go_wp2_with fail
    refine HI.out.mono ?_
    rintro e w1 ⟨rfl, hb1⟩
    go_wp2
    go_loopw [6] (fun a wx => a = .int .i64 20 ∧ wx = w1) (fun _ _ => 0)
    case atStart => exact ⟨rfl, rfl⟩
    case round =>
      obtain ⟨rfl, rfl⟩ := hrel
      go_wp2
      go_end0
      exact ⟨rfl, hb1⟩
set_option maxRecDepth 100000 in
theorem sortR_nil (w : World) (fv : Value) (c : Nat) :
    Calls Try.prog 54 #[.slice none 0 c, fv] w fun e w' => e = .returned (.tuple #[]) ∧ Below w.heap.size w w' := by
  have HI := Lib.hid (stableR_nil w fv c)
  go_enter Try.func54, Try.ntmps54
  go_wp2_with fail
  refine HI.out.mono ?_
  rintro e w1 ⟨rfl, hb1⟩
  go_wp2
  go_end0
  exact ⟨rfl, hb1⟩
end Go.Proofs.Ytophfgijfmdbcaa
