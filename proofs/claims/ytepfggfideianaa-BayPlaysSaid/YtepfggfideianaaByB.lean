/- A new bay; how much it holds, and in its fullest box (chapter 15). -/
import Derived.Test.YtepfggfideianaaProg
import Derived.Test.YtepfggfideianaaByA
namespace Go.Proofs.Ytepfggfideianaa
open Go.RowKit Go.Conc
namespace By

theorem zBox (w : World) : (zeroValue 64).run Try.prog w = .ok (.agg #[.chan none]) w := by kernel_rfl
theorem newBay_bad (w : World) (n : Int) (h : n < 1 ∨ 2048 < n) : Calls Try.prog 18 #[.int .i64 n] w fun e w' => e = .returned (.pointer none) ∧ w = w' := by
  go_enter Try.func18, Try.ntmps18
  go_wp2_with fail
  refine (new_bad w n h).mono ?_
  rintro e w1 ⟨rfl, rfl⟩
  go_wp2
  go_ret
  exact ⟨rfl, rfl⟩
def RetNew (w : World) (n : Nat) (e : Ending) (w' : World) : Prop := ∃ gb bm, e = .returned (.pointer (some ⟨gb, 0, none⟩)) ∧ BayAt w' w.heap.size gb bm n [] [] ∧ Below w.heap.size w w'
theorem newBay_ok (w : World) (n : Nat) (h1 : 1 ≤ n) (h2 : n ≤ 2048) : Calls Try.prog 18 #[.int .i64 (n : Int)] w (RetNew w n) := by
  have hmm := @run_makeMap Try.prog
  have hN := Lib.hid (new_ok w n h1 h2)
  go_enter Try.func18, Try.ntmps18
  go_wp2_with fail
  refine hN.out.mono ?_
  rintro e w1 ⟨rfl, -, -, hb⟩
  have hs := hb.size
  have HB := Lib.hid hb
  clear hb
  go_wp2
  go_ret
  have hb2 := ((Below.refl w1.heap.size w1).alloc (Nat.le_refl _) (.map #[] 0)).alloc (by simp) (.cells #[.int .i64 (n : Int), .map (some w1.heap.size)] 67)
  refine ⟨w1.heap.size + 1, w1.heap.size, rfl, ⟨?_, ?_, (fun p hp => by cases hp), (fun x hx => by cases hx), (fun p hp => by cases hp), (fun k => Nat.zero_le _), by omega, by omega, (fun p hp => by cases hp), (fun p hp => by cases hp)⟩, HB.out.trans (hb2.mono hs)⟩
  · have := Blk.new (w1.alloc (.map #[] 0)) 67 #[.int .i64 (n : Int), .map (some w1.heap.size)]
    simpa using this
  · exact (MapAt.new kS evB w1).alloc _
theorem lenNone (w : World) {gb : Nat} (hb : Blk w gb 64 #[.chan none]) :
    Calls Try.prog 12 #[.pointer (some ⟨gb, 0, none⟩)] w fun e w' => e = .returned (.int .i64 0) ∧ w = w' := by
  have c0 := hb.cell 0
  have hl : ∀ ty, (Builtin.len_ #[62] ty #[.chan none]).run Try.prog w = .ok (.int .i64 0) w := fun ty => by
    simp [Builtin.len_, run_underlying Try.underlying62, goInt, Result.andThen]
  go_enter Try.func12, Try.ntmps12
  go_wp2
  go_ret
  exact ⟨rfl, rfl⟩
theorem lenBay_nil (w : World) : Calls Try.prog 20 #[.pointer none] w fun e w' => e = .returned (.int .i64 0) ∧ w = w' := by
  go_enter Try.func20, Try.ntmps20
  go_wp2
  go_ret
  exact ⟨rfl, rfl⟩
theorem mostBay_nil (w : World) : Calls Try.prog 21 #[.pointer none] w fun e w' => e = .returned (.int .i64 0) ∧ w = w' := by
  go_enter Try.func21, Try.ntmps21
  go_wp2
  go_ret
  exact ⟨rfl, rfl⟩
/-- The loop over the boxes: how much has been counted. -/
def Cnt (m todo : List (ByteArray × Nat)) (L : List KX) (n : Nat) : Prop := n + sumN (todo.map fun p => cnt L p.1) = sumN (m.map fun p => cnt L p.1)
theorem Cnt.step {m todo : List (ByteArray × Nat)} {L : List KX} {n g : Nat} {x : ByteArray} (h : Cnt m todo L n) (hn : Nd todo) (hx : (x, g) ∈ todo) : Cnt m (mdel todo x) L (n + (que L x).length) := by
  unfold Cnt at h ⊢
  rw [sum_mdel _ hn hx] at h
  rw [que_len]
  dsimp only at h
  omega
theorem Cnt.le {m todo : List (ByteArray × Nat)} {L : List KX} {n : Nat} (h : Cnt m todo L n) : n ≤ sumN (m.map fun p => cnt L p.1) := by unfold Cnt at h; omega
set_option maxRecDepth 100000 in
set_option maxHeartbeats 1600000 in
theorem lenBay_calls (w : World) {B gb bm room : Nat} {m : List (ByteArray × Nat)} {L : List KX} (h : BayAt w B gb bm room m L) (hL : L.length ≤ 1000000) :
    Calls Try.prog 20 #[.pointer (some ⟨gb, 0, none⟩)] w fun e w' => e = .returned (.int .i64 (L.length : Int)) ∧ Below w.heap.size w w' := by
  have HB := Lib.hid h
  have c1 := h.blk.cell 1
  have HS := Lib.hid (sum_len h.nd h.held)
  have hgb := h.lt_gb
  have HND := Lib.hid h.nd
  have HU := Lib.hid Try.underlying65
  clear h
  go_enter Try.func20, Try.ntmps20
  go_wp2_with (at_range; go_must (refine wpList_range w rfl _ rfl HB.out.map HU.out rfl ?_))
  intro w1 hr1 hg1 hs1
  have HR1 := Lib.hid hr1
  have HW1 : Hid (Below w.heap.size w w1) := Lib.hid ((Below.refl _ _).grown hg1 (Nat.le_refl _) (by intro g hg; cases hg))
  clear hr1 hg1
  go_wp2
  go_loopw [3] (fun n wr => ∃ (k : Nat) (todo : List (ByteArray × Nat)), n = .int .i64 (k : Int) ∧ Hid (RangeAt kS evB wr bm w.heap.size m todo) ∧ Hid (Cnt m todo L k) ∧ Hid (Below w.heap.size w wr) ∧ Hid (w.heap.size < wr.heap.size)) (fun _ wr => wr.rangeLeft bm w.heap.size)
  case atStart => exact ⟨0, m, rfl, HR1, Lib.hid (Nat.zero_add _), HW1, Lib.hid (by omega)⟩
  case round =>
    obtain ⟨k, todo, rfl, HR, HC, HW, HZ⟩ := hrel
    obtain ⟨wo, rfl⟩ : ∃ wo : World, wo = wr := ⟨_, rfl⟩
    have HWs := HW.out.size
    go_wp2_with (at_next; go_must (refine wpList_next wo rfl _ rfl HR.out rfl ?_ ?_))
    · rintro rfl
      have e : k = L.length := by have := HC.out; unfold Cnt at this; rw [HS.out] at this; simpa [sumN] using this
      subst e
      go_wp2
      go_ret
      exact ⟨rfl, HW.out⟩
    · intro x y w2 hm hr2 hlt hg2 hs2 hen
      have hb2 : Below w.heap.size w w2 := HW.out.grown hg2 HWs (by intro g hg; injection hg with hg; omega)
      have HB2 := Lib.hid (HB.out.below hb2)
      have HM : Hid ((x, y) ∈ m) := Lib.hid (HR.out.sub.subset hm)
      have HC2 := Lib.hid (HC.out.step (HND.out.sublist HR.out.sub) hm)
      have hk9 : k + (que L x).length ≤ L.length := by have := HC2.out.le; rw [HS.out] at this; exact this
      have HR2 := Lib.hid hr2
      have HB2w := Lib.hid hb2
      have hwz : w.heap.size < w2.heap.size := by have := HZ.out; omega
      rw [show kS.val x = .string x from rfl] at hen ⊢
      unfold evB at hen ⊢
      clear hm hr2 hg2 hb2 HC
      have HLT := Lib.hid hlt
      have HS2 := Lib.hid hs2
      clear hlt hs2
      go_wp2_with fail
      have hbx := Blk.new w2 64 #[.chan (some y)]
      have hb3 := (Below.refl w2.heap.size w2).alloc (Nat.le_refl _) (.cells #[.chan (some y)] 64)
      have hch := ((HB2.out.ch _ HM.out).below hb3 (HB2.out.ch _ HM.out).lt)
      have HR3 := Lib.hid (HR2.out.below hb3 HB2.out.map.lt_ hwz)
      have HW3 := Lib.hid (HB2w.out.trans (hb3.mono (by omega)))
      have hz3 : w.heap.size < (w2.alloc (.cells #[.chan (some y)] 64)).heap.size := by simp; omega
      clear hb3
      generalize w2.alloc (.cells #[.chan (some y)] 64) = w3 at *
      refine (len_calls w3 hbx hch).mono ?_
      rintro e w' ⟨rfl, rfl⟩
      dsimp only at hk9 ⊢
      clear hbx hch
      have HO := Lib.hid HR.out.left_eq
      have HN := Lib.hid HR3.out.left_eq
      generalize (que L x).length = q at *
      go_wp2
      go_roundw
      case rel => exact ⟨k + q, _, by go_num, HR3, HC2, HW3, Lib.hid hz3⟩
      case measure => rw [HO.out, HN.out]; exact HLT.out

/-- The fullest box so far. -/
def Mx (m todo : List (ByteArray × Nat)) (L : List KX) (n : Nat) : Prop := (∀ p ∈ m, p ∈ todo ∨ cnt L p.1 ≤ n) ∧ (n = 0 ∨ n ∈ m.map fun p => cnt L p.1)
theorem Mx.start (m : List (ByteArray × Nat)) (L : List KX) : Mx m m L 0 := ⟨fun p hp => .inl hp, .inl rfl⟩
theorem Mx.done {m : List (ByteArray × Nat)} {L : List KX} {n : Nat} (h : Mx m [] L n) : Most (m.map fun p => cnt L p.1) n := ⟨fun x hx => by
    obtain ⟨p, hp, rfl⟩ := List.mem_map.1 hx
    rcases h.1 p hp with h | h
    · cases h
    · exact h, h.2⟩
theorem Mx.step {m todo : List (ByteArray × Nat)} {L : List KX} {n g : Nat} {x : ByteArray} (h : Mx m todo L n) (hn : Nd m) (hx : (x, g) ∈ m) : Mx m (mdel todo x) L (max n (cnt L x)) := by
  refine ⟨fun p hp => ?_, ?_⟩
  · by_cases e : p.1 = x
    · right; rw [e]; omega
    · rcases h.1 p hp with h | h
      · exact .inl (mem_mdel.2 ⟨h, e⟩)
      · right; omega
  · rcases Nat.le_total n (cnt L x) with e | e
    · rw [Nat.max_eq_right e]
      exact .inr (List.mem_map.2 ⟨_, hx, rfl⟩)
    · rw [Nat.max_eq_left e]; exact h.2
theorem Mx.le {m todo : List (ByteArray × Nat)} {L : List KX} {n : Nat} (h : Mx m todo L n) : n ≤ L.length := by
  rcases h.2 with e | e
  · omega
  · obtain ⟨p, _, rfl⟩ := List.mem_map.1 e
    exact cnt_le L p.1
def RetMost (w : World) (m : List (ByteArray × Nat)) (L : List KX) (e : Ending) (w' : World) : Prop := ∃ n : Nat, e = .returned (.int .i64 (n : Int)) ∧ Most (m.map fun p => cnt L p.1) n ∧ n ≤ L.length ∧ Below w.heap.size w w'
set_option maxRecDepth 100000 in
set_option maxHeartbeats 1600000 in
theorem mostBay_calls (w : World) {B gb bm room : Nat} {m : List (ByteArray × Nat)} {L : List KX} (h : BayAt w B gb bm room m L) (hL : L.length ≤ 1000000) :
    Calls Try.prog 21 #[.pointer (some ⟨gb, 0, none⟩)] w (RetMost w m L) := by
  have HB := Lib.hid h
  have c1 := h.blk.cell 1
  have hgb := h.lt_gb
  have HND := Lib.hid h.nd
  have HU := Lib.hid Try.underlying65
  clear h
  go_enter Try.func21, Try.ntmps21
  go_wp2_with (at_range; go_must (refine wpList_range w rfl _ rfl HB.out.map HU.out rfl ?_))
  intro w1 hr1 hg1 hs1
  have HR1 := Lib.hid hr1
  have HW1 : Hid (Below w.heap.size w w1) := Lib.hid ((Below.refl _ _).grown hg1 (Nat.le_refl _) (by intro g hg; cases hg))
  clear hr1 hg1
  go_wp2
  go_loopw [3] (fun n wr => ∃ (k : Nat) (todo : List (ByteArray × Nat)), n = .int .i64 (k : Int) ∧ Hid (RangeAt kS evB wr bm w.heap.size m todo) ∧ Hid (Mx m todo L k) ∧ Hid (Below w.heap.size w wr) ∧ Hid (w.heap.size < wr.heap.size)) (fun _ wr => wr.rangeLeft bm w.heap.size)
  case atStart => exact ⟨0, m, rfl, HR1, Lib.hid (Mx.start m L), HW1, Lib.hid (by omega)⟩
  case round =>
    obtain ⟨k, todo, rfl, HR, HC, HW, HZ⟩ := hrel
    obtain ⟨wo, rfl⟩ : ∃ wo : World, wo = wr := ⟨_, rfl⟩
    have HWs := HW.out.size
    go_wp2_with (at_next; go_must (refine wpList_next wo rfl _ rfl HR.out rfl ?_ ?_))
    · rintro rfl
      have HD := Lib.hid HC.out.done
      have hkl := HC.out.le
      go_wp2
      go_ret
      exact ⟨k, rfl, HD.out, hkl, HW.out⟩
    · intro x y w2 hm hr2 hlt hg2 hs2 hen
      have hb2 : Below w.heap.size w w2 := HW.out.grown hg2 HWs (by intro g hg; injection hg with hg; omega)
      have HB2 := Lib.hid (HB.out.below hb2)
      have HM : Hid ((x, y) ∈ m) := Lib.hid (HR.out.sub.subset hm)
      have HC2 := Lib.hid (HC.out.step HND.out HM.out)
      have hk9 : k ≤ L.length := HC.out.le
      have hq9 : (que L x).length ≤ L.length := by rw [que_len]; exact cnt_le L x
      rw [← que_len] at HC2
      have HR2 := Lib.hid hr2
      have HB2w := Lib.hid hb2
      have hwz : w.heap.size < w2.heap.size := by have := HZ.out; omega
      rw [show kS.val x = .string x from rfl] at hen ⊢
      unfold evB at hen ⊢
      clear hm hr2 hg2 hb2 HC
      have HLT := Lib.hid hlt
      have HS2 := Lib.hid hs2
      clear hlt hs2
      go_wp2_with fail
      have hbx := Blk.new w2 64 #[.chan (some y)]
      have hb3 := (Below.refl w2.heap.size w2).alloc (Nat.le_refl _) (.cells #[.chan (some y)] 64)
      have hch := ((HB2.out.ch _ HM.out).below hb3 (HB2.out.ch _ HM.out).lt)
      have HR3 := Lib.hid (HR2.out.below hb3 HB2.out.map.lt_ hwz)
      have HW3 := Lib.hid (HB2w.out.trans (hb3.mono (by omega)))
      have hz3 : w.heap.size < (w2.alloc (.cells #[.chan (some y)] 64)).heap.size := by simp; omega
      clear hb3
      generalize w2.alloc (.cells #[.chan (some y)] 64) = w3 at *
      refine (len_calls w3 hbx hch).mono ?_
      rintro e w' ⟨rfl, rfl⟩
      dsimp only at hq9 ⊢
      clear hbx hch
      have HO := Lib.hid HR.out.left_eq
      have HN := Lib.hid HR3.out.left_eq
      generalize (que L x).length = q at *
      go_wp2
      go_roundw
      case rel => exact ⟨max k q, _, by go_num, HR3, HC2, HW3, Lib.hid hz3⟩
      case measure => rw [HO.out, HN.out]; exact HLT.out
end By
end Go.Proofs.Ytepfggfideianaa
