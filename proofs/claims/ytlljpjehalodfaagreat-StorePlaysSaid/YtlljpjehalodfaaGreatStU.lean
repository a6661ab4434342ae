/- A page of keys (chapter 14). -/
import Derived.Test.YtlljpjehalodfaaGreatProg
import Derived.Test.YtlljpjehalodfaaGreatStT
namespace Go.Proofs.YtlljpjehalodfaaGreat
open Go.RowKit
namespace St

/-- A function value that gives f of each thing that is well, and makes memory only. -/
def Gives (base : Nat) (w0 : World) (g : Nat) (lb : Array Value) {α : Type} (V : α → Value) (ok : α → Prop) (f : α → It) : Prop :=
  (∀ args w, (callFunc g args).run Tryz.prog w = .ok (.enter g args) w) ∧ ∀ W, Below base w0 W → ∀ x, ok x → Calls Tryz.prog g (#[V x] ++ lb) W fun e w' => e = .returned (f x).val ∧ Below W.heap.size W w'
theorem Tryz.infoIt : (Tryz.prog.info? 62).map (fun i => (i.zero, i.size, i.bytes)) = some (some (.agg #[.string .empty, .int .i64 0, .int .i64 0, .int .i64 0]), 4, 40) := by kernel_rfl
def itCells (l : List It) : List Value := l.flatMap It.cells
theorem itCells_len : ∀ l : List It, (itCells l).length = l.length * 4
  | [] => rfl
  | a :: r => by
    show (It.cells a ++ itCells r).length = _
    rw [List.length_append, itCells_len r, List.length_cons, Nat.add_mul, Nat.one_mul, Nat.add_comm]; rfl
theorem itCells_snoc (l : List It) (x : It) : itCells (l ++ [x]) = itCells l ++ x.cells := by
  unfold itCells; rw [List.flatMap_append]; simp
theorem it_one (x : It) : ∀ u ∈ x.cells, u.oneCell' = true := by
  intro u hu
  unfold It.cells at hu
  simp at hu
  rcases hu with rfl | rfl | rfl | rfl <;> rfl
def pageV (A : Option Addr) (n c : Nat) (b : Bool) : Value := .agg #[.int .i64 0, .slice none 0 0, .int .i64 0, .int .i64 0, .int .i64 0, .slice A n c, .bool b]
def RetPage (w : World) (l : List It) (b : Bool) (e : Ending) (w' : World) : Prop :=
  ∃ A c, e = .returned (pageV A l.length c b) ∧ w'.ownsRow w.heap.size 62 4 (.slice A l.length c) l.length (itCells l) ∧ Below w.heap.size w w'
theorem own_setCell {w : World} {base size n : Nat} {e : TypeId} {v : Value} {xs : List Value} {p : Addr} (h : w.ownsRow base e size v n xs) (hp : p.block < base) (u : Value) : (w.setCell p u).ownsRow base e size v n xs :=
  ((Keep.refl (fun i => i = p.block) w).setCell (.inl rfl) u).own h fun g hg e => by omega
theorem keep_below {F : Nat → Prop} {w2 w4 w5 : World} (hk : Keep F w2 w4) (h : Below w2.heap.size w4 w5) : Keep F w2 w5 :=
  ⟨h.os.trans hk.os, h.tape.trans hk.tape, h.output.trans hk.output, Nat.le_trans hk.size h.size, fun i hi hF => (h.block i hi).trans (hk.block i hi hF)⟩
set_option maxRecDepth 100000 in
set_option maxHeartbeats 16000000 in
theorem pageS_calls (w : World) {base c g : Nat} {lb : Array Value} {A : Option Addr} {l : List ByteArray} {w0 : World} {ok : ByteArray → Prop} {f : ByteArray → It} (hg : Gives base w0 g lb Value.string ok f) (hw : Below base w0 w) (hbase : base ≤ w.heap.size) (hr : Reads w w.heap.size 1 A l.length (l.map Value.string)) (hok : ∀ x ∈ l, ok x) (hc : l.length ≤ c) (hn : l.length ≤ 1000000) :
    Calls Tryz.prog 45 #[.slice A l.length c, .func (.func g) #[] lb] w (RetPage w ((l.take 16).map f) (decide (16 < l.length))) := by
  have HG := Lib.hid hg.2
  have eg := hg.1
  have HW := Lib.hid hw
  have HR := Lib.hid hr
  have HOKS := Lib.hid hok
  have hb2 : Below w.heap.size w ((w.alloc (.cells rep0 43)).alloc (.cells rep0 43)) := ((Below.refl _ _).alloc (Nat.le_refl _) _).alloc (by simp) _
  have HB2 := Lib.hid hb2
  have HB4 := Lib.hid ((Blk.new w 43 rep0).alloc (.cells rep0 43))
  have hz : (w.alloc (.cells rep0 43)).heap.size = w.heap.size + 1 := by simp
  have HB5 := Blk.new (w.alloc (.cells rep0 43)) 43 rep0
  rw [hz] at HB5
  have HB5 := Lib.hid HB5
  unfold rep0 at HB2 HB4 HB5
  clear hg hw hr hok hb2 hz
  go_enter Tryz.func45, Tryz.ntmps45
  go_upto_region 2 with fail
  generalize hw2 : (w.alloc (.cells #[.int .i64 0, .slice none 0 0, .int .i64 0, .int .i64 0, .int .i64 0, .slice none 0 0, .bool false] 43)).alloc (.cells #[.int .i64 0, .slice none 0 0, .int .i64 0, .int .i64 0, .int .i64 0, .slice none 0 0, .bool false] 43) = w2 at *
  clear hw2
  go_wp2
  obtain ⟨m, hm⟩ : ∃ m : Nat, min l.length 16 = m := ⟨_, rfl⟩
  have e1 : min (l.length : Int) 16 = (m : Int) := by omega
  have e3 : max (m : Int) 0 = (m : Int) := by omega
  simp only [e1, e3, Int.toNat_natCast]
  have hml : m ≤ l.length := by omega
  have hm16 : m ≤ 16 := by omega
  have HML : Hid (l.take 16 = l.take m) := Lib.hid (by
    rcases Nat.lt_or_ge l.length 16 with h | h
    · rw [List.take_of_length_le (by omega), List.take_of_length_le (by omega)]
    · rw [show m = 16 from by omega])
  clear e1 e3 hm
  go_loopw [14] (fun i wr => ∃ (j : Nat) (AL : Option Addr) (cL : Nat), j ≤ m ∧ i = .int .i64 (j : Int) ∧ Hid (Blk wr (w.heap.size + 1) 43 #[.int .i64 0, .slice none 0 0, .int .i64 0, .int .i64 0, .int .i64 0, .slice AL j cL, .bool false]) ∧ Hid (wr.ownsRow w2.heap.size 62 4 (.slice AL j cL) j (itCells ((l.take j).map f))) ∧ Hid (Keep (fun i => i = w.heap.size + 1) w2 wr)) (fun i _ => m - (intOf i).toNat)
  case atStart => exact ⟨0, none, 0, Nat.zero_le _, rfl, HB5, Lib.hid (World.ownsRow_nil _ _ _ _), Lib.hid (Keep.refl _ _)⟩
  case round =>
    obtain ⟨j, AL, cL, hj, rfl, HL, HOWN, HKP⟩ := hrel
    obtain ⟨wi, rfl⟩ : ∃ wi : World, wi = wr := ⟨_, rfl⟩
    have hsz2 := HKP.out.size
    have hs4 := HB4.out.lt
    have HBW : Hid (Below w.heap.size w wi) := Lib.hid (HB2.out.trans (HKP.out.below (Nat.le_of_lt hs4) (fun i e => by omega)))
    by_cases hlt : j < m
    · have d1 : decide ((j : Int) < (m : Int)) = true := dct (by omega)
      obtain ⟨b, off, rfl, hbB, hcell⟩ := (HR.out.below HBW.out).2 (by omega : 0 < l.length)
      have hjl : j < l.length := by omega
      have x0 := hcell j (.string (gA l .empty j)) (by rw [List.getElem?_map, List.getElem?_eq_getElem hjl, gA_eq (z := .empty) hjl]; rfl)
      have HX : Hid ((l.take (j + 1)).map f = (l.take j).map f ++ [f (gA l .empty j)]) := Lib.hid (by
        rw [← gA_eq hjl, List.take_succ_eq_append_getElem hjl, List.map_append]; rfl)
      have HOKX : Hid (ok (gA l .empty j)) := Lib.hid (by rw [← gA_eq hjl]; exact HOKS.out _ (List.getElem_mem hjl))
      have hi0 : (0 : Int) ≤ (j : Int) := by omega
      have hi1 : (j : Int) < (m : Int) := by omega
      clear hcell
      generalize gA l .empty j = x at *
      go_upto_region 5 with fail
      have Hk5 : Hid (∀ W, Below wi.heap.size wi W → W.cell? ⟨w.heap.size + 1, 5, none⟩ = some (.slice AL j cL)) := Lib.hid fun W hW => (HL.out.below hW HL.out.lt).cell 5
      have HWI : Hid (Below base w0 wi) := Lib.hid (HW.out.trans (HBW.out.mono hbase))
      have hbi := HBW.out.size
      refine wp_region_T 8 (fun w' => w'.cell? ⟨w.heap.size + 1, 5, none⟩ = some (.slice AL j cL)) (by kernel_rfl) (Hk5.out _ (below_drewN_ (Below.refl _ _) 1)) (fun hHeld => ?_)
      refine wpAnyT_take (i := 0) (oi := _) (v := ?_) rfl (by kernel_rfl) (fun _ _ _ h => h) (Or.inl ⟨by kernel_rfl, ?_⟩) (by assumption) ?_; rotate_left; (focus (intro w hSw; (try dsimp only at hSw); go_simp; (try with_reducible rfl))); (try simp only [Act.put, List.getElem_toArray, List.getElem_cons_zero, List.setIfInBounds_toArray, List.set_cons_zero, List.set_cons_succ])
      refine wpAnyT_take (i := 1) (oi := _) (v := ?_) rfl (by kernel_rfl) (fun _ _ _ h => h) (Or.inl ⟨by kernel_rfl, ?_⟩) (by assumption) ?_; rotate_left; (focus (intro w hSw; (try dsimp only at hSw); go_simp; (try with_reducible rfl))); (try simp only [Act.put, List.getElem_toArray, List.getElem_cons_zero, List.getElem_cons_succ, List.setIfInBounds_toArray, List.set_cons_zero, List.set_cons_succ])
      refine wpAnyT_take (i := 2) (oi := _) (v := ?_) rfl (by kernel_rfl) (fun _ _ _ h => h) (Or.inl ⟨by kernel_rfl, ?_⟩) (by assumption) ?_; rotate_left; (focus (intro w hSw; (try dsimp only at hSw); go_simp; (try with_reducible rfl))); (try simp only [Act.put, List.getElem_toArray, List.getElem_cons_zero, List.getElem_cons_succ, List.setIfInBounds_toArray, List.set_cons_zero, List.set_cons_succ])
      refine wpAnyT_take (i := 3) (oi := _) (v := ?_) rfl (by kernel_rfl) (fun _ _ _ h => h) (Or.inl ⟨by kernel_rfl, ?_⟩) (by assumption) ?_; rotate_left; (focus (intro w hSw; (try dsimp only at hSw); go_simp; (try with_reducible rfl))); (try simp only [Act.put, List.getElem_toArray, List.getElem_cons_zero, List.getElem_cons_succ, List.setIfInBounds_toArray, List.set_cons_zero, List.set_cons_succ])
      refine wpAnyT_one (i := 4) (by kernel_rfl) rfl (fun K hK => ?_); go_simp
      refine (HG.out _ (below_drewN_ HWI.out 1) x HOKX.out).mono ?_
      generalize f x = y at *
      rintro e w3 ⟨rfl, hb3'⟩
      have hb3 : Below wi.heap.size wi w3 := (below_drewN_ (Below.refl _ _) 1).trans hb3'
      have hH3 := Hk5.out _ hb3
      have HL3 := Lib.hid (HL.out.below hb3 HL.out.lt)
      have HOWN3 := Lib.hid (own_below HOWN.out hb3)
      have HKP3 := Lib.hid (HKP.out.trans (Keep.of_below hb3))
      refine hK.out _ _ (fun _ => hH3) ?_
      unfold It.val
      clear hK K hHeld Hk5 HL HOWN HKP hb3 hb3' HWI HOKX
      (try simp only [Act.put, List.getElem_toArray, List.getElem_cons_zero, List.getElem_cons_succ, List.setIfInBounds_toArray, List.set_cons_zero, List.set_cons_succ])
      refine wpAnyT_one (i := 5) (by kernel_rfl) rfl (fun K hK => ?_); go_simp
      have hb4 : Below w3.heap.size w3 (w3.alloc (.cells #[.string y.key, .int .i64 y.ver, .int .i64 y.size, .int .i64 y.born] 62)) := (Below.refl _ _).alloc (Nat.le_refl _) _
      have HL4 := Lib.hid (HL3.out.below hb4 HL3.out.lt)
      have HOWN4 := Lib.hid (own_below HOWN3.out hb4)
      have HKP4 := Lib.hid (HKP3.out.trans (Keep.of_below hb4))
      have HN4 := Lib.hid (Reads.made (size := 4) (n := 1) w3 #[.string y.key, .int .i64 y.ver, .int .i64 y.size, .int .i64 y.born] 62 rfl)
      have hH4 : (w3.alloc (.cells #[.string y.key, .int .i64 y.ver, .int .i64 y.size, .int .i64 y.born] 62)).cell? ⟨w.heap.size + 1, 5, none⟩ = some (.slice AL j cL) := HL4.out.cell 5
      refine hK.out _ _ (fun _ => hH4) ?_
      clear hK K hb4 HL3 HOWN3 HKP3 hH3
      (try simp only [Act.put, List.getElem_toArray, List.getElem_cons_zero, List.getElem_cons_succ, List.setIfInBounds_toArray, List.set_cons_zero, List.set_cons_succ])
      refine wpAnyT_one (i := 6) (by kernel_rfl) rfl (fun K hK => ?_)
      refine step_append_sl _ rfl (.tmp 19) (.tmp 23) _ rfl w2.heap.size 62 _ 4 40 Tryz.underlying41 Tryz.infoIt rfl (by omega) _ _ _ rfl HOWN4.out _ _ 1 1 _ rfl HN4.out (it_one y) (by unfold maxLen; omega) (by omega) HKP4.out.size ?_
      intro A5 c5 w5 hc1 hc2 hrd5 hbel5 hown5 _ _
      have HL5 := Lib.hid (HL4.out.below hbel5 HB5.out.lt)
      have HKP5 := Lib.hid (keep_below HKP4.out hbel5)
      have hH5 : w5.cell? ⟨w.heap.size + 1, 5, none⟩ = some (.slice AL j cL) := HL5.out.cell 5
      have f5 := HL5.out.frozen 5
      have HOWN5 : Hid (w5.ownsRow w2.heap.size 62 4 (.slice A5 (j + 1) c5) (j + 1) (itCells ((l.take j).map f ++ [y]))) := Lib.hid (by rw [itCells_snoc]; exact hown5)
      refine hK.out _ _ (fun _ => hH5) ?_
      clear hK K HL4 HOWN4 HKP4 HN4 hrd5 hown5 hbel5 hc1 hc2 hH4
      (try simp only [Act.put, List.getElem_toArray, List.getElem_cons_zero, List.getElem_cons_succ, List.setIfInBounds_toArray, List.set_cons_zero, List.set_cons_succ])
      refine wpAnyT_take (i := 7) (oi := _) (v := ?_) rfl (by kernel_rfl) (fun _ _ _ h => h) (Or.inl ⟨by kernel_rfl, ?_⟩) (by assumption) ?_; rotate_left; (focus (intro w hSw; (try dsimp only at hSw); go_simp; (try with_reducible rfl))); (try simp only [Act.put, List.getElem_toArray, List.getElem_cons_zero, List.getElem_cons_succ, List.setIfInBounds_toArray, List.set_cons_zero, List.set_cons_succ])
      refine wpAnyT_one (i := 8) (by kernel_rfl) rfl (fun K hK => ?_); go_simp
      refine hK.out _ _ (fun h => absurd rfl h) (wpAnyT_done (by kernel_rfl) ?_ _)
      clear hK K
      have HL6 : Hid (Blk (w5.setCell ⟨w.heap.size + 1, 5, none⟩ (.slice A5 (j + 1) c5)) (w.heap.size + 1) 43 #[.int .i64 0, .slice none 0 0, .int .i64 0, .int .i64 0, .int .i64 0, .slice A5 (j + 1) c5, .bool false]) := Lib.hid (HL5.out.set_ 5 _)
      have HOWN6 := Lib.hid (own_setCell (p := ⟨w.heap.size + 1, 5, none⟩) HOWN5.out HB5.out.lt (.slice A5 (j + 1) c5))
      have HKP6 := Lib.hid (HKP5.out.setCell (p := ⟨w.heap.size + 1, 5, none⟩) (.inl rfl) (.slice A5 (j + 1) c5))
      clear HL5 HOWN5 HKP5 hH5 f5
      go_wp2
      go_roundw
      case rel => exact ⟨j + 1, A5, c5, by omega, by go_num, HL6, by rw [HX.out]; exact HOWN6, HKP6⟩
      case measure => simp [intOf]; omega
    · obtain rfl : j = m := by omega
      have d1 : decide ((j : Int) < (j : Int)) = false := dcf (by omega)
      have HB4i := Lib.hid (HKP.out.blk HB4.out (by omega))
      generalize hbm : decide (16 < l.length) = bm
      have d2 : decide ((16 : Int) < (l.length : Int)) = bm := by rw [← hbm]; exact decide_eq_decide.2 (by omega)
      have f6 := HL.out.frozen 6
      have c6 : wi.cell? ⟨w.heap.size + 1, 6, none⟩ = some (.bool false) := HL.out.cell 6
      have HBM := Lib.hid hbm
      clear hbm
      go_upto_region 8 with fail
      have HL6 : Hid (Blk (wi.setCell ⟨w.heap.size + 1, 6, none⟩ (.bool bm)) (w.heap.size + 1) 43 #[.int .i64 0, .slice none 0 0, .int .i64 0, .int .i64 0, .int .i64 0, .slice AL j cL, .bool bm]) := Lib.hid (HL.out.set_ 6 _)
      have HB6 := Lib.hid (HB4i.out.far (p := ⟨w.heap.size + 1, 6, none⟩) (by simp) (.bool bm))
      have HOWN6 := Lib.hid (own_setCell (p := ⟨w.heap.size + 1, 6, none⟩) HOWN.out HB5.out.lt (.bool bm))
      have HKP6 := Lib.hid (HKP.out.setCell (p := ⟨w.heap.size + 1, 6, none⟩) (.inl rfl) (.bool bm))
      clear HL HB4i HOWN HKP f6 c6 d2
      generalize wi.setCell ⟨w.heap.size + 1, 6, none⟩ (.bool bm) = w6 at *
      have r0 : w6.cell? ⟨w.heap.size + 1, 0, none⟩ = some (.int .i64 0) := HL6.out.cell 0
      have r1 : w6.cell? ⟨w.heap.size + 1, 1, none⟩ = some (.slice none 0 0) := HL6.out.cell 1
      have r2 : w6.cell? ⟨w.heap.size + 1, 2, none⟩ = some (.int .i64 0) := HL6.out.cell 2
      have r3 : w6.cell? ⟨w.heap.size + 1, 3, none⟩ = some (.int .i64 0) := HL6.out.cell 3
      have r4 : w6.cell? ⟨w.heap.size + 1, 4, none⟩ = some (.int .i64 0) := HL6.out.cell 4
      have r5 : w6.cell? ⟨w.heap.size + 1, 5, none⟩ = some (.slice AL j cL) := HL6.out.cell 5
      have r6 : w6.cell? ⟨w.heap.size + 1, 6, none⟩ = some (.bool bm) := HL6.out.cell 6
      generalize hg4 : w.heap.size = g4 at *
      have q0 : w6.cell? ⟨g4, 0, none⟩ = some (.int .i64 0) := HB6.out.cell 0
      have p0 : w6.frozen? ⟨g4, 0, none⟩ = false := HB6.out.frozen 0
      have q1 : w6.cell? ⟨g4, 1, none⟩ = some (.slice none 0 0) := HB6.out.cell 1
      have p1 : w6.frozen? ⟨g4, 1, none⟩ = false := HB6.out.frozen 1
      have q2 : w6.cell? ⟨g4, 2, none⟩ = some (.int .i64 0) := HB6.out.cell 2
      have p2 : w6.frozen? ⟨g4, 2, none⟩ = false := HB6.out.frozen 2
      have q3 : w6.cell? ⟨g4, 3, none⟩ = some (.int .i64 0) := HB6.out.cell 3
      have p3 : w6.frozen? ⟨g4, 3, none⟩ = false := HB6.out.frozen 3
      have q4 : w6.cell? ⟨g4, 4, none⟩ = some (.int .i64 0) := HB6.out.cell 4
      have p4 : w6.frozen? ⟨g4, 4, none⟩ = false := HB6.out.frozen 4
      have q5 : w6.cell? ⟨g4, 5, none⟩ = some (.slice none 0 0) := HB6.out.cell 5
      have p5 : w6.frozen? ⟨g4, 5, none⟩ = false := HB6.out.frozen 5
      have q6 : w6.cell? ⟨g4, 6, none⟩ = some (.bool false) := HB6.out.cell 6
      have p6 : w6.frozen? ⟨g4, 6, none⟩ = false := HB6.out.frozen 6
      go_wp2
      have hw := set7_blk (v0 := .int .i64 0) (v1 := .slice none 0 0) (v2 := .int .i64 0) (v3 := .int .i64 0) (v4 := .int .i64 0) (v5 := .slice AL j cL) (v6 := .bool bm) HB6.out
      have hk := set7_keep (w := w6) (g := g4) (v0 := .int .i64 0) (v1 := .slice none 0 0) (v2 := .int .i64 0) (v3 := .int .i64 0) (v4 := .int .i64 0) (v5 := .slice AL j cL) (v6 := .bool bm)
      have hown7 := hk.own HOWN6.out (fun i hi e => by have := HB4.out.lt; omega)
      have hK7 := HB2.out.trans (((HKP6.out.mono (G := fun i => g4 ≤ i) (fun i _ e => by omega)).trans (hk.mono (fun i _ e => by omega))).below (Nat.le_of_lt hs4) (fun i h => h))
      have hlj : ((l.take 16).map f).length = j := by rw [HML.out, List.length_map, List.length_take]; omega
      unfold set7 at hw hown7 hK7
      refine bodyPost_ret (results_cell_row rfl _ _ g4 43 #[.int .i64 0, .slice none 0 0, .int .i64 0, .int .i64 0, .int .i64 0, .slice AL j cL, .bool bm] (0, 0) _ rfl hw Tryz.underlying43 rfl (by kernel_rfl)) rfl ?_
      refine ⟨AL, cL, by rw [hlj, HBM.out]; rfl, ?_, by rw [hg4]; exact hK7⟩
      rw [hlj, HML.out]
      exact own_base hown7 (by omega)
end St
end Go.Proofs.YtlljpjehalodfaaGreat
