/- Contracts of the package bay (chapter 15): New, Put, Take, Len, Room, Either, at boxes of int: a channel with a buffer, in one goroutine. -/
import Derived.Test.YtepfggfideianaaProg
import Derived.Test.YtepfggfideianaaMem
import Derived.Conc.LoneCalls
import Derived.Conc.LoneSelect
import Derived.Conc.LoneSelectN
import Derived.KernelRfl
import Derived.Laws.Rows
namespace Go.Proofs.Ytepfggfideianaa
open Go.RowKit Go.Conc

/-- The cells of a queue of integers. -/
def ints (l : List Int) : Array Value := (l.map (Value.int .i64)).toArray
theorem ints_size (l : List Int) : (ints l).size = l.length := by simp [ints]
theorem ints_push (l : List Int) (x : Int) : (ints l).push (.int .i64 x) = ints (l ++ [x]) := by simp [ints]
theorem ints_pop (x : Int) (l : List Int) : (ints (x :: l)).extract 1 (ints (x :: l)).size = ints l := by simp [ints, List.take_of_length_le]
theorem ints_head (x : Int) (l : List Int) : (ints (x :: l)).getD 0 undef = .int .i64 x := by simp [ints]

/-- Block gc is an open channel of room cap that holds l. -/
def Ch (w : World) (gc cap : Nat) (l : List Int) : Prop := ∃ s r, w.heap[gc]? = some (.chan cap (ints l) false s r false)
theorem Ch.lt {w : World} {gc cap : Nat} {l : List Int} (h : Ch w gc cap l) : gc < w.heap.size := by
  obtain ⟨s, r, h⟩ := h
  rcases Nat.lt_or_ge gc w.heap.size with hlt | hge
  · exact hlt
  · rw [Array.getElem?_eq_none hge] at h; cases h
theorem Ch.below {w w' : World} {B gc cap : Nat} {l : List Int} (h : Ch w gc cap l) (hb : Below B w w') (hg : gc < B) : Ch w' gc cap l := by
  obtain ⟨s, r, h⟩ := h
  exact ⟨s, r, (hb.block gc hg).trans h⟩
theorem Ch.only {w w' : World} {g gc cap : Nat} {l : List Int} (h : Ch w gc cap l) (hb : Only g w w') (hg : gc ≠ g) : Ch w' gc cap l := by
  have hl := h.lt
  obtain ⟨s, r, h⟩ := h
  exact ⟨s, r, (hb.block gc hl (fun e => hg (by injection e))).trans h⟩
theorem only_setChan (w : World) (gc cap : Nat) (buf : Array Value) (cl : Bool) (s r : Nat) (tm : Bool) : Only gc w (w.setChan gc cap buf cl s r tm) :=
  ⟨rfl, rfl, rfl, by simp [World.setChan], fun k _ hne => by simp only [World.setChan]; rw [Array.getElem?_setIfInBounds_ne (by rintro rfl; exact hne rfl)]⟩
theorem ch_set {w : World} {gc : Nat} (h : gc < w.heap.size) (cap : Nat) (l : List Int) (s r : Nat) : Ch (w.setChan gc cap (ints l) false s r false) gc cap l := ⟨s, r, heap_setChan w gc cap _ false s r false h⟩


theorem put_nil (x : Value) (w : World) : Calls Try.prog 9 #[.pointer none, x] w fun e w' => e = .returned (.bool false) ∧ w = w' := by
  go_enter Try.func9, Try.ntmps9
  go_wp2
  go_ret
  exact ⟨rfl, rfl⟩
theorem take_nil (w : World) : Calls Try.prog 11 #[.pointer none] w fun e w' => e = .returned (.tuple #[.int .i64 0, .bool false]) ∧ w = w' := by
  go_enter Try.func11, Try.ntmps11
  go_wp2
  go_ret2
  exact ⟨rfl, rfl⟩
theorem len_nil (w : World) : Calls Try.prog 12 #[.pointer none] w fun e w' => e = .returned (.int .i64 0) ∧ w = w' := by
  go_enter Try.func12, Try.ntmps12
  go_wp2
  go_ret
  exact ⟨rfl, rfl⟩
theorem len_calls (w : World) {gb gc cap : Nat} {l : List Int} (hb : Blk w gb 64 #[.chan (some gc)]) (h : Ch w gc cap l) :
    Calls Try.prog 12 #[.pointer (some ⟨gb, 0, none⟩)] w fun e w' => e = .returned (.int .i64 (l.length : Int)) ∧ w = w' := by
  have c0 := hb.cell 0
  obtain ⟨s, r, hc⟩ := h
  have hl := fun ty => run_len_chan (P := Try.prog) 62 ty Try.underlying62 hc
  rw [ints_size] at hl
  go_enter Try.func12, Try.ntmps12
  go_wp2
  go_ret
  exact ⟨rfl, rfl⟩
theorem room_nil (w : World) : Calls Try.prog 13 #[.pointer none] w fun e w' => e = .returned (.int .i64 0) ∧ w = w' := by
  go_enter Try.func13, Try.ntmps13
  go_wp2
  go_ret
  exact ⟨rfl, rfl⟩
theorem room_calls (w : World) {gb gc cap : Nat} {l : List Int} (hb : Blk w gb 64 #[.chan (some gc)]) (h : Ch w gc cap l) (hr : l.length ≤ cap) (hc : cap ≤ 2048) :
    Calls Try.prog 13 #[.pointer (some ⟨gb, 0, none⟩)] w fun e w' => e = .returned (.int .i64 ((cap : Int) - (l.length : Int))) ∧ ∃ n, w' = w.drewN n := by
  have c0 := hb.cell 0
  obtain ⟨s, r, hc0⟩ := h
  have hl := fun (n : Nat) ty => run_len_chan (P := Try.prog) (w := w.drewN n) 62 ty Try.underlying62 hc0
  have hl2 := fun (n : Nat) ty => run_cap_chan (P := Try.prog) (w := w.drewN n) 62 ty Try.underlying62 hc0
  simp only [ints_size] at hl
  have e1 : IntKind.i64.wrap ((cap : Int) - (l.length : Int)) = (cap : Int) - (l.length : Int) := by rw [IntKind.wrap_i64]; omega
  go_enter Try.func13, Try.ntmps13
  go_wp2
  go_quiet (fail)
  go_wp2
  go_ret
  exact ⟨rfl, _, rfl⟩

theorem Try.infoInt : (Try.prog.info? 3).map (fun i => (i.zero, i.size, i.bytes)) = some (some (.int .i64 0), 1, 8) := by kernel_rfl
theorem mk_chan (w : World) (n : Nat) (hn : n ≤ 2048) : (Instr.makeChan 62 (.int .i64 (n : Int))).run Try.prog w = .ok (.chan (some w.heap.size)) (w.alloc (.chan n #[] false 0 0 false)) := by
  obtain ⟨i, hi, _, _, hb⟩ := info_parts Try.infoInt
  simpa using run_makeChan (P := Try.prog) (w := w) Try.underlying62 hi .i64 n (by omega) (by rw [hb]; omega)
theorem new_bad (w : World) (n : Int) (h : n < 1 ∨ 2048 < n) : Calls Try.prog 8 #[.int .i64 n] w fun e w' => e = .returned (.pointer none) ∧ w = w' := by
  have h' : n < 1 ∨ (¬ n < 1 ∧ 2048 < n) := by omega
  clear h
  rcases h' with h | ⟨h, h2⟩
  all_goals
    go_enter Try.func8, Try.ntmps8
    go_wp2
    go_ret
    exact ⟨rfl, rfl⟩
theorem new_ok (w : World) (n : Nat) (h1 : 1 ≤ n) (h2 : n ≤ 2048) :
    Calls Try.prog 8 #[.int .i64 (n : Int)] w fun e w' => e = .returned (.pointer (some ⟨w.heap.size + 1, 0, none⟩)) ∧ Blk w' (w.heap.size + 1) 64 #[.chan (some w.heap.size)] ∧ Ch w' w.heap.size n [] ∧ Below w.heap.size w w' := by
  have hm := fun w => mk_chan w n h2
  have a1 : ¬ (n : Int) < 1 := by omega
  have a2 : ¬ 2048 < (n : Int) := by omega
  go_enter Try.func8, Try.ntmps8
  go_wp2
  go_ret
  refine ⟨rfl, ?_, ?_, ((Below.refl _ _).alloc (Nat.le_refl _) _).alloc (by simp) _⟩
  · have := Blk.new (w.alloc (.chan n #[] false 0 0 false)) 64 #[.chan (some w.heap.size)]
    simpa using this
  · refine ⟨0, 0, ?_⟩
    rw [Below.heap_alloc _ _ _ (by simp)]
    exact heap_alloc_new w _

set_option maxRecDepth 100000 in
theorem put_ok (w : World) {gb gc cap : Nat} {l : List Int} (x : Int) (hb : Blk w gb 64 #[.chan (some gc)]) (h : Ch w gc cap l) (hr : l.length < cap) :
    Calls Try.prog 9 #[.pointer (some ⟨gb, 0, none⟩), .int .i64 x] w fun e w' => e = .returned (.bool true) ∧ Ch w' gc cap (l ++ [x]) ∧ Only gc w w' := by
  have c0 := hb.cell 0
  obtain ⟨s, r, hc⟩ := h
  refine calls_of_loneTo fun cs => ?_
  have e : Frame.enter Try.prog 9 #[.pointer (some ⟨gb, 0, none⟩), .int .i64 x] .normal = (base 9).at ⟨#[.pointer (some ⟨gb, 0, none⟩), .int .i64 x, undef, undef, undef, undef, undef, undef, undef, undef, undef, undef, undef, undef, undef], []⟩ [.code (Try.f9.body.getD .skip)] := by
    simp [Frame.enter, Frame.at, Try.func9, base, Try.f9]
  rw [e]
  clear e
  refine LoneTo.goes (n := 80) ?_
  simp only [Try.f9, Option.getD_some]
  s_c stepG_seq
  s_reg
  s_op
  s_c stepG_region_end
  s_c stepG_seq
  s_c stepG_seq
  s_reg
  s_op
  s_op
  s_c stepG_region_end
  s_cond false
  s_c stepG_skip
  s_c stepG_seq
  s_c stepG_seq
  s_reg
  s_op
  s_op
  s_op
  s_op
  s_c stepG_region_end
  s_reg
  s_op
  s_c stepG_region_end
  s_c stepG_seq
  s_reg
  s_stop
  refine LoneTo.step (step_lone_select_send_room (c := gc) (v := .int .i64 x) (z' := .int .i64 0) (cap := cap) (buf := ints l) (s := s) (r := r) (tm := false) (stepG_comm (cases := #[scase gc (.int .i64 x) (.int .i64 0)]) (blocking := false) (shape := .select) (w' := w) rfl rfl (by decide) (by simp [go_sem, execOp, scase, Act.eval])) hc (by rw [ints_size]; exact hr)) ?_
  rw [Frame.finish_at]
  walk_nrm
  refine LoneTo.goes (n := 80) ?_
  s_op
  s_op
  s_c stepG_region_end
  s_c stepG_block
  s_cond true
  s_c stepG_seq
  s_reg
  s_op
  s_c stepG_region_end
  s_c stepG_ret'
  s_stop
  refine LoneTo.done ⟨.returned (.bool true), _, rfl, ⟨rfl, ?_, only_setChan w gc _ _ _ _ _ _⟩, rfl, rfl, rfl, rfl, _, Try.func9, by simp [results, Try.f9, Frame.at]⟩
  rw [ints_push]
  exact ch_set (Ch.lt ⟨s, r, hc⟩) cap _ _ _

set_option maxRecDepth 100000 in
theorem put_full (w : World) {gb gc cap : Nat} {l : List Int} (x : Int) (hb : Blk w gb 64 #[.chan (some gc)]) (h : Ch w gc cap l) (hr : cap ≤ l.length) :
    Calls Try.prog 9 #[.pointer (some ⟨gb, 0, none⟩), .int .i64 x] w fun e w' => e = .returned (.bool false) ∧ w = w' := by
  have c0 := hb.cell 0
  obtain ⟨s, r, hc⟩ := h
  refine calls_of_loneTo fun cs => ?_
  have e : Frame.enter Try.prog 9 #[.pointer (some ⟨gb, 0, none⟩), .int .i64 x] .normal = (base 9).at ⟨#[.pointer (some ⟨gb, 0, none⟩), .int .i64 x, undef, undef, undef, undef, undef, undef, undef, undef, undef, undef, undef, undef, undef], []⟩ [.code (Try.f9.body.getD .skip)] := by
    simp [Frame.enter, Frame.at, Try.func9, base, Try.f9]
  rw [e]
  clear e
  refine LoneTo.goes (n := 80) ?_
  simp only [Try.f9, Option.getD_some]
  s_c stepG_seq
  s_reg
  s_op
  s_c stepG_region_end
  s_c stepG_seq
  s_c stepG_seq
  s_reg
  s_op
  s_op
  s_c stepG_region_end
  s_cond false
  s_c stepG_skip
  s_c stepG_seq
  s_c stepG_seq
  s_reg
  s_op
  s_op
  s_op
  s_op
  s_c stepG_region_end
  s_reg
  s_op
  s_c stepG_region_end
  s_c stepG_seq
  s_reg
  s_stop
  refine LoneTo.step (step_lone_select_send_full (c := gc) (v := .int .i64 x) (z' := .int .i64 0) (cap := cap) (buf := ints l) (s := s) (r := r) (tm := false) (stepG_comm (cases := #[scase gc (.int .i64 x) (.int .i64 0)]) (blocking := false) (shape := .select) (w' := w) rfl rfl (by decide) (by simp [go_sem, execOp, scase, Act.eval])) hc (by rw [ints_size]; exact hr)) ?_
  rw [Frame.finish_at]
  walk_nrm
  refine LoneTo.goes (n := 80) ?_
  s_op
  s_op
  s_c stepG_region_end
  s_c stepG_block
  s_cond false
  s_c stepG_seq
  s_reg
  s_op
  s_c stepG_region_end
  s_c stepG_ret'
  s_stop
  refine LoneTo.done ⟨.returned (.bool false), _, rfl, ⟨rfl, rfl⟩, rfl, rfl, rfl, rfl, _, Try.func9, by simp [results, Try.f9, Frame.at]⟩

set_option maxRecDepth 100000 in
theorem take_ok (w : World) {gb gc cap : Nat} {l : List Int} {x : Int} (hb : Blk w gb 64 #[.chan (some gc)]) (h : Ch w gc cap (x :: l)) :
    Calls Try.prog 11 #[.pointer (some ⟨gb, 0, none⟩)] w fun e w' => e = .returned (.tuple #[.int .i64 x, .bool true]) ∧ Ch w' gc cap l ∧ Only gc w w' := by
  have c0 := hb.cell 0
  obtain ⟨s, r, hc⟩ := h
  refine calls_of_loneTo fun cs => ?_
  have e : Frame.enter Try.prog 11 #[.pointer (some ⟨gb, 0, none⟩)] .normal = (base 11).at ⟨#[.pointer (some ⟨gb, 0, none⟩), undef, undef, undef, undef, undef, undef, undef, undef, undef, undef, undef, undef, undef, undef, undef, undef], []⟩ [.code (Try.f11.body.getD .skip)] := by
    simp [Frame.enter, Frame.at, Try.func11, base, Try.f11]
  rw [e]
  clear e
  refine LoneTo.goes (n := 80) ?_
  simp only [Try.f11, Option.getD_some]
  s_c stepG_seq
  s_reg
  s_op
  s_op
  s_c stepG_region_end
  s_c stepG_seq
  s_c stepG_seq
  s_reg
  s_op
  s_op
  s_c stepG_region_end
  s_cond false
  s_c stepG_skip
  s_c stepG_seq
  s_reg
  s_op
  s_op
  s_op
  s_op
  s_c stepG_region_end
  s_c stepG_seq
  s_reg
  s_stop
  refine LoneTo.step (step_lone_select_recv_buf (c := gc) (z := .int .i64 0) (stepG_comm (cases := #[rcase gc (.int .i64 0)]) (blocking := false) (shape := .select) (w' := w) rfl rfl (by decide) (by simp [go_sem, execOp, rcase, Act.eval])) hc (by rw [ints_size]; simp)) ?_
  rw [ints_head, ints_pop]
  rw [Frame.finish_at]
  walk_nrm
  refine LoneTo.goes (n := 80) ?_
  s_op
  s_op
  s_c stepG_region_end
  s_c stepG_block
  s_cond true
  s_c stepG_seq
  s_reg
  s_op
  s_op
  s_c stepG_region_end
  s_c stepG_seq
  s_reg
  s_op
  s_op
  s_op
  s_c stepG_region_end
  s_c stepG_ret'
  s_stop
  refine LoneTo.done ⟨.returned (.tuple #[.int .i64 x, .bool true]), _, rfl, ⟨rfl, ch_set (Ch.lt ⟨s, r, hc⟩) cap _ _ _, only_setChan w gc _ _ _ _ _ _⟩, rfl, rfl, rfl, rfl, _, Try.func11, by simp [results, Try.f11, Frame.at]⟩

set_option maxRecDepth 100000 in
theorem take_empty (w : World) {gb gc cap : Nat} (hb : Blk w gb 64 #[.chan (some gc)]) (h : Ch w gc cap []) :
    Calls Try.prog 11 #[.pointer (some ⟨gb, 0, none⟩)] w fun e w' => e = .returned (.tuple #[.int .i64 0, .bool false]) ∧ w = w' := by
  have c0 := hb.cell 0
  obtain ⟨s, r, hc⟩ := h
  refine calls_of_loneTo fun cs => ?_
  have e : Frame.enter Try.prog 11 #[.pointer (some ⟨gb, 0, none⟩)] .normal = (base 11).at ⟨#[.pointer (some ⟨gb, 0, none⟩), undef, undef, undef, undef, undef, undef, undef, undef, undef, undef, undef, undef, undef, undef, undef, undef], []⟩ [.code (Try.f11.body.getD .skip)] := by
    simp [Frame.enter, Frame.at, Try.func11, base, Try.f11]
  rw [e]
  clear e
  refine LoneTo.goes (n := 80) ?_
  simp only [Try.f11, Option.getD_some]
  s_c stepG_seq
  s_reg
  s_op
  s_op
  s_c stepG_region_end
  s_c stepG_seq
  s_c stepG_seq
  s_reg
  s_op
  s_op
  s_c stepG_region_end
  s_cond false
  s_c stepG_skip
  s_c stepG_seq
  s_reg
  s_op
  s_op
  s_op
  s_op
  s_c stepG_region_end
  s_c stepG_seq
  s_reg
  s_stop
  refine LoneTo.step (step_lone_select_default (c := gc) (z := .int .i64 0) (stepG_comm (cases := #[rcase gc (.int .i64 0)]) (blocking := false) (shape := .select) (w' := w) rfl rfl (by decide) (by simp [go_sem, execOp, rcase, Act.eval])) hc) ?_
  rw [Frame.finish_at]
  walk_nrm
  refine LoneTo.goes (n := 80) ?_
  s_op
  s_op
  s_c stepG_region_end
  s_c stepG_block
  s_cond false
  s_c stepG_seq
  s_reg
  s_op
  s_op
  s_op
  s_c stepG_region_end
  s_c stepG_ret'
  s_stop
  refine LoneTo.done ⟨.returned (.tuple #[.int .i64 0, .bool false]), _, rfl, ⟨rfl, rfl⟩, rfl, rfl, rfl, rfl, _, Try.func11, by simp [results, Try.f11, Frame.at]⟩

set_option maxRecDepth 100000 in
theorem either_full_some (w : World) {x : Int} {l : List Int} {ga gc cap : Nat} {gb gd cap2 : Nat} (ha : Blk w ga 64 #[.chan (some gc)]) (h1 : Ch w gc cap (x :: l)) (hb : Blk w gb 64 #[.chan (some gd)]) :
    Calls Try.prog 10 #[.pointer (some ⟨ga, 0, none⟩), .pointer (some ⟨gb, 0, none⟩)] w fun e w' => e = .returned (.tuple #[.int .i64 x, .int .i64 1]) ∧ Ch w' gc cap l ∧ Only gc w w' := by
  have c0 := ha.cell 0
  obtain ⟨s1, r1, hc1⟩ := h1
  have c1 := hb.cell 0
  refine calls_of_loneTo fun cs => ?_
  have e : Frame.enter Try.prog 10 #[.pointer (some ⟨ga, 0, none⟩), .pointer (some ⟨gb, 0, none⟩)] .normal = (base 10).at ⟨#[.pointer (some ⟨ga, 0, none⟩), .pointer (some ⟨gb, 0, none⟩), undef, undef, undef, undef, undef, undef, undef, undef, undef, undef, undef, undef, undef, undef, undef, undef, undef, undef, undef, undef, undef, undef, undef, undef, undef, undef, undef, undef, undef, undef, undef], []⟩ [.code (Try.f10.body.getD .skip)] := by
    simp [Frame.enter, Frame.at, Try.func10, base, Try.f10]
  rw [e]
  clear e
  refine LoneTo.goes (n := 80) ?_
  simp only [Try.f10, Option.getD_some]
  s_c stepG_seq
  s_reg
  s_op
  s_op
  s_c stepG_region_end
  s_c stepG_seq
  s_reg
  s_op
  s_op
  s_c stepG_region_end
  s_c stepG_seq
  s_c stepG_seq
  s_reg
  s_op
  s_op
  s_c stepG_region_end
  s_cond true
  s_reg
  s_op
  s_op
  s_op
  s_op
  s_op
  s_c stepG_region_end
  s_c stepG_seq
  s_c stepG_seq
  s_reg
  s_op
  s_op
  s_c stepG_region_end
  s_cond true
  s_reg
  s_op
  s_op
  s_op
  s_op
  s_op
  s_c stepG_region_end
  s_c stepG_seq
  s_c stepG_seq
  s_reg
  s_op
  s_c stepG_region_end
  s_c stepG_seq
  s_reg
  s_stop
  refine LoneTo.step (step_lone_select_recv_buf (c := gc) (z := .int .i64 0) (stepG_comm (cases := #[rcase gc (.int .i64 0)]) (blocking := false) (shape := .select) (w' := w) rfl rfl (by decide) (by simp [go_sem, execOp, rcase, Act.eval])) hc1 (by rw [ints_size]; simp)) ?_
  rw [ints_head, ints_pop]
  rw [Frame.finish_at]
  walk_nrm
  refine LoneTo.goes (n := 80) ?_
  s_op
  s_op
  s_c stepG_region_end
  s_c stepG_block
  s_cond true
  s_c stepG_seq
  s_reg
  s_op
  s_op
  s_c stepG_region_end
  s_c stepG_seq
  s_reg
  s_op
  s_op
  s_op
  s_c stepG_region_end
  s_c stepG_ret'
  s_stop
  refine LoneTo.done ⟨.returned (.tuple #[.int .i64 x, .int .i64 1]), _, rfl, ⟨rfl, ch_set (Ch.lt ⟨s1, r1, hc1⟩) cap _ _ _, only_setChan w gc _ _ _ _ _ _⟩, rfl, rfl, rfl, rfl, _, Try.func10, by simp [results, Try.f10, Frame.at]⟩

set_option maxRecDepth 100000 in
theorem either_full_nil (w : World) {x : Int} {l : List Int} {ga gc cap : Nat} (ha : Blk w ga 64 #[.chan (some gc)]) (h1 : Ch w gc cap (x :: l)) :
    Calls Try.prog 10 #[.pointer (some ⟨ga, 0, none⟩), .pointer none] w fun e w' => e = .returned (.tuple #[.int .i64 x, .int .i64 1]) ∧ Ch w' gc cap l ∧ Only gc w w' := by
  have c0 := ha.cell 0
  obtain ⟨s1, r1, hc1⟩ := h1
  refine calls_of_loneTo fun cs => ?_
  have e : Frame.enter Try.prog 10 #[.pointer (some ⟨ga, 0, none⟩), .pointer none] .normal = (base 10).at ⟨#[.pointer (some ⟨ga, 0, none⟩), .pointer none, undef, undef, undef, undef, undef, undef, undef, undef, undef, undef, undef, undef, undef, undef, undef, undef, undef, undef, undef, undef, undef, undef, undef, undef, undef, undef, undef, undef, undef, undef, undef], []⟩ [.code (Try.f10.body.getD .skip)] := by
    simp [Frame.enter, Frame.at, Try.func10, base, Try.f10]
  rw [e]
  clear e
  refine LoneTo.goes (n := 80) ?_
  simp only [Try.f10, Option.getD_some]
  s_c stepG_seq
  s_reg
  s_op
  s_op
  s_c stepG_region_end
  s_c stepG_seq
  s_reg
  s_op
  s_op
  s_c stepG_region_end
  s_c stepG_seq
  s_c stepG_seq
  s_reg
  s_op
  s_op
  s_c stepG_region_end
  s_cond true
  s_reg
  s_op
  s_op
  s_op
  s_op
  s_op
  s_c stepG_region_end
  s_c stepG_seq
  s_c stepG_seq
  s_reg
  s_op
  s_op
  s_c stepG_region_end
  s_cond false
  s_c stepG_skip
  s_c stepG_seq
  s_c stepG_seq
  s_reg
  s_op
  s_c stepG_region_end
  s_c stepG_seq
  s_reg
  s_stop
  refine LoneTo.step (step_lone_select_recv_buf (c := gc) (z := .int .i64 0) (stepG_comm (cases := #[rcase gc (.int .i64 0)]) (blocking := false) (shape := .select) (w' := w) rfl rfl (by decide) (by simp [go_sem, execOp, rcase, Act.eval])) hc1 (by rw [ints_size]; simp)) ?_
  rw [ints_head, ints_pop]
  rw [Frame.finish_at]
  walk_nrm
  refine LoneTo.goes (n := 80) ?_
  s_op
  s_op
  s_c stepG_region_end
  s_c stepG_block
  s_cond true
  s_c stepG_seq
  s_reg
  s_op
  s_op
  s_c stepG_region_end
  s_c stepG_seq
  s_reg
  s_op
  s_op
  s_op
  s_c stepG_region_end
  s_c stepG_ret'
  s_stop
  refine LoneTo.done ⟨.returned (.tuple #[.int .i64 x, .int .i64 1]), _, rfl, ⟨rfl, ch_set (Ch.lt ⟨s1, r1, hc1⟩) cap _ _ _, only_setChan w gc _ _ _ _ _ _⟩, rfl, rfl, rfl, rfl, _, Try.func10, by simp [results, Try.f10, Frame.at]⟩

set_option maxRecDepth 100000 in
theorem either_empty_full (w : World) {x : Int} {l : List Int} {ga gc cap : Nat} {gb gd cap2 : Nat} (ha : Blk w ga 64 #[.chan (some gc)]) (h1 : Ch w gc cap []) (hb : Blk w gb 64 #[.chan (some gd)]) (h2 : Ch w gd cap2 (x :: l)) :
    Calls Try.prog 10 #[.pointer (some ⟨ga, 0, none⟩), .pointer (some ⟨gb, 0, none⟩)] w fun e w' => e = .returned (.tuple #[.int .i64 x, .int .i64 2]) ∧ Ch w' gd cap2 l ∧ Only gd w w' := by
  have c0 := ha.cell 0
  obtain ⟨s1, r1, hc1⟩ := h1
  have c1 := hb.cell 0
  obtain ⟨s2, r2, hc2⟩ := h2
  refine calls_of_loneTo fun cs => ?_
  have e : Frame.enter Try.prog 10 #[.pointer (some ⟨ga, 0, none⟩), .pointer (some ⟨gb, 0, none⟩)] .normal = (base 10).at ⟨#[.pointer (some ⟨ga, 0, none⟩), .pointer (some ⟨gb, 0, none⟩), undef, undef, undef, undef, undef, undef, undef, undef, undef, undef, undef, undef, undef, undef, undef, undef, undef, undef, undef, undef, undef, undef, undef, undef, undef, undef, undef, undef, undef, undef, undef], []⟩ [.code (Try.f10.body.getD .skip)] := by
    simp [Frame.enter, Frame.at, Try.func10, base, Try.f10]
  rw [e]
  clear e
  refine LoneTo.goes (n := 80) ?_
  simp only [Try.f10, Option.getD_some]
  s_c stepG_seq
  s_reg
  s_op
  s_op
  s_c stepG_region_end
  s_c stepG_seq
  s_reg
  s_op
  s_op
  s_c stepG_region_end
  s_c stepG_seq
  s_c stepG_seq
  s_reg
  s_op
  s_op
  s_c stepG_region_end
  s_cond true
  s_reg
  s_op
  s_op
  s_op
  s_op
  s_op
  s_c stepG_region_end
  s_c stepG_seq
  s_c stepG_seq
  s_reg
  s_op
  s_op
  s_c stepG_region_end
  s_cond true
  s_reg
  s_op
  s_op
  s_op
  s_op
  s_op
  s_c stepG_region_end
  s_c stepG_seq
  s_c stepG_seq
  s_reg
  s_op
  s_c stepG_region_end
  s_c stepG_seq
  s_reg
  s_stop
  refine LoneTo.step (step_lone_select_default (c := gc) (z := .int .i64 0) (stepG_comm (cases := #[rcase gc (.int .i64 0)]) (blocking := false) (shape := .select) (w' := w) rfl rfl (by decide) (by simp [go_sem, execOp, rcase, Act.eval])) hc1) ?_
  rw [Frame.finish_at]
  walk_nrm
  refine LoneTo.goes (n := 80) ?_
  s_op
  s_op
  s_c stepG_region_end
  s_c stepG_block
  s_cond false
  s_c stepG_skip
  s_c stepG_inBlock
  s_c stepG_seq
  s_reg
  s_op
  s_c stepG_region_end
  s_c stepG_seq
  s_reg
  s_stop
  refine LoneTo.step (step_lone_select_recv_buf (c := gd) (z := .int .i64 0) (stepG_comm (cases := #[rcase gd (.int .i64 0)]) (blocking := false) (shape := .select) (w' := w) rfl rfl (by decide) (by simp [go_sem, execOp, rcase, Act.eval])) hc2 (by rw [ints_size]; simp)) ?_
  rw [ints_head, ints_pop]
  rw [Frame.finish_at]
  walk_nrm
  refine LoneTo.goes (n := 80) ?_
  s_op
  s_op
  s_c stepG_region_end
  s_c stepG_block
  s_cond true
  s_c stepG_seq
  s_reg
  s_op
  s_op
  s_c stepG_region_end
  s_c stepG_seq
  s_reg
  s_op
  s_op
  s_op
  s_c stepG_region_end
  s_c stepG_ret'
  s_stop
  refine LoneTo.done ⟨.returned (.tuple #[.int .i64 x, .int .i64 2]), _, rfl, ⟨rfl, ch_set (Ch.lt ⟨s2, r2, hc2⟩) cap2 _ _ _, only_setChan w gd _ _ _ _ _ _⟩, rfl, rfl, rfl, rfl, _, Try.func10, by simp [results, Try.f10, Frame.at]⟩

set_option maxRecDepth 100000 in
theorem either_empty_empty (w : World) {ga gc cap : Nat} {gb gd cap2 : Nat} (ha : Blk w ga 64 #[.chan (some gc)]) (h1 : Ch w gc cap []) (hb : Blk w gb 64 #[.chan (some gd)]) (h2 : Ch w gd cap2 []) :
    Calls Try.prog 10 #[.pointer (some ⟨ga, 0, none⟩), .pointer (some ⟨gb, 0, none⟩)] w fun e w' => e = .returned (.tuple #[.int .i64 0, .int .i64 0]) ∧ w = w' := by
  have c0 := ha.cell 0
  obtain ⟨s1, r1, hc1⟩ := h1
  have c1 := hb.cell 0
  obtain ⟨s2, r2, hc2⟩ := h2
  refine calls_of_loneTo fun cs => ?_
  have e : Frame.enter Try.prog 10 #[.pointer (some ⟨ga, 0, none⟩), .pointer (some ⟨gb, 0, none⟩)] .normal = (base 10).at ⟨#[.pointer (some ⟨ga, 0, none⟩), .pointer (some ⟨gb, 0, none⟩), undef, undef, undef, undef, undef, undef, undef, undef, undef, undef, undef, undef, undef, undef, undef, undef, undef, undef, undef, undef, undef, undef, undef, undef, undef, undef, undef, undef, undef, undef, undef], []⟩ [.code (Try.f10.body.getD .skip)] := by
    simp [Frame.enter, Frame.at, Try.func10, base, Try.f10]
  rw [e]
  clear e
  refine LoneTo.goes (n := 80) ?_
  simp only [Try.f10, Option.getD_some]
  s_c stepG_seq
  s_reg
  s_op
  s_op
  s_c stepG_region_end
  s_c stepG_seq
  s_reg
  s_op
  s_op
  s_c stepG_region_end
  s_c stepG_seq
  s_c stepG_seq
  s_reg
  s_op
  s_op
  s_c stepG_region_end
  s_cond true
  s_reg
  s_op
  s_op
  s_op
  s_op
  s_op
  s_c stepG_region_end
  s_c stepG_seq
  s_c stepG_seq
  s_reg
  s_op
  s_op
  s_c stepG_region_end
  s_cond true
  s_reg
  s_op
  s_op
  s_op
  s_op
  s_op
  s_c stepG_region_end
  s_c stepG_seq
  s_c stepG_seq
  s_reg
  s_op
  s_c stepG_region_end
  s_c stepG_seq
  s_reg
  s_stop
  refine LoneTo.step (step_lone_select_default (c := gc) (z := .int .i64 0) (stepG_comm (cases := #[rcase gc (.int .i64 0)]) (blocking := false) (shape := .select) (w' := w) rfl rfl (by decide) (by simp [go_sem, execOp, rcase, Act.eval])) hc1) ?_
  rw [Frame.finish_at]
  walk_nrm
  refine LoneTo.goes (n := 80) ?_
  s_op
  s_op
  s_c stepG_region_end
  s_c stepG_block
  s_cond false
  s_c stepG_skip
  s_c stepG_inBlock
  s_c stepG_seq
  s_reg
  s_op
  s_c stepG_region_end
  s_c stepG_seq
  s_reg
  s_stop
  refine LoneTo.step (step_lone_select_default (c := gd) (z := .int .i64 0) (stepG_comm (cases := #[rcase gd (.int .i64 0)]) (blocking := false) (shape := .select) (w' := w) rfl rfl (by decide) (by simp [go_sem, execOp, rcase, Act.eval])) hc2) ?_
  rw [Frame.finish_at]
  walk_nrm
  refine LoneTo.goes (n := 80) ?_
  s_op
  s_op
  s_c stepG_region_end
  s_c stepG_block
  s_cond false
  s_c stepG_seq
  s_reg
  s_op
  s_op
  s_op
  s_c stepG_region_end
  s_c stepG_ret'
  s_stop
  refine LoneTo.done ⟨.returned (.tuple #[.int .i64 0, .int .i64 0]), _, rfl, ⟨rfl, rfl⟩, rfl, rfl, rfl, rfl, _, Try.func10, by simp [results, Try.f10, Frame.at]⟩

set_option maxRecDepth 100000 in
theorem either_empty_nil (w : World) {ga gc cap : Nat} (ha : Blk w ga 64 #[.chan (some gc)]) (h1 : Ch w gc cap []) :
    Calls Try.prog 10 #[.pointer (some ⟨ga, 0, none⟩), .pointer none] w fun e w' => e = .returned (.tuple #[.int .i64 0, .int .i64 0]) ∧ w = w' := by
  have c0 := ha.cell 0
  obtain ⟨s1, r1, hc1⟩ := h1
  refine calls_of_loneTo fun cs => ?_
  have e : Frame.enter Try.prog 10 #[.pointer (some ⟨ga, 0, none⟩), .pointer none] .normal = (base 10).at ⟨#[.pointer (some ⟨ga, 0, none⟩), .pointer none, undef, undef, undef, undef, undef, undef, undef, undef, undef, undef, undef, undef, undef, undef, undef, undef, undef, undef, undef, undef, undef, undef, undef, undef, undef, undef, undef, undef, undef, undef, undef], []⟩ [.code (Try.f10.body.getD .skip)] := by
    simp [Frame.enter, Frame.at, Try.func10, base, Try.f10]
  rw [e]
  clear e
  refine LoneTo.goes (n := 80) ?_
  simp only [Try.f10, Option.getD_some]
  s_c stepG_seq
  s_reg
  s_op
  s_op
  s_c stepG_region_end
  s_c stepG_seq
  s_reg
  s_op
  s_op
  s_c stepG_region_end
  s_c stepG_seq
  s_c stepG_seq
  s_reg
  s_op
  s_op
  s_c stepG_region_end
  s_cond true
  s_reg
  s_op
  s_op
  s_op
  s_op
  s_op
  s_c stepG_region_end
  s_c stepG_seq
  s_c stepG_seq
  s_reg
  s_op
  s_op
  s_c stepG_region_end
  s_cond false
  s_c stepG_skip
  s_c stepG_seq
  s_c stepG_seq
  s_reg
  s_op
  s_c stepG_region_end
  s_c stepG_seq
  s_reg
  s_stop
  refine LoneTo.step (step_lone_select_default (c := gc) (z := .int .i64 0) (stepG_comm (cases := #[rcase gc (.int .i64 0)]) (blocking := false) (shape := .select) (w' := w) rfl rfl (by decide) (by simp [go_sem, execOp, rcase, Act.eval])) hc1) ?_
  rw [Frame.finish_at]
  walk_nrm
  refine LoneTo.goes (n := 80) ?_
  s_op
  s_op
  s_c stepG_region_end
  s_c stepG_block
  s_cond false
  s_c stepG_skip
  s_c stepG_inBlock
  s_c stepG_seq
  s_reg
  s_op
  s_c stepG_region_end
  s_c stepG_seq
  s_reg
  s_stop
  refine LoneTo.step (step_lone_select_recv_nil (z := .int .i64 0) (stepG_comm (cases := #[rcaseNil (.int .i64 0)]) (blocking := false) (shape := .select) (w' := w) rfl rfl (by decide) (by simp [go_sem, execOp, rcaseNil, Act.eval]))) ?_
  rw [Frame.finish_at]
  walk_nrm
  refine LoneTo.goes (n := 80) ?_
  s_op
  s_op
  s_c stepG_region_end
  s_c stepG_block
  s_cond false
  s_c stepG_seq
  s_reg
  s_op
  s_op
  s_op
  s_c stepG_region_end
  s_c stepG_ret'
  s_stop
  refine LoneTo.done ⟨.returned (.tuple #[.int .i64 0, .int .i64 0]), _, rfl, ⟨rfl, rfl⟩, rfl, rfl, rfl, rfl, _, Try.func10, by simp [results, Try.f10, Frame.at]⟩

set_option maxRecDepth 100000 in
theorem either_nil_full (w : World) {x : Int} {l : List Int} {gb gd cap2 : Nat} (hb : Blk w gb 64 #[.chan (some gd)]) (h2 : Ch w gd cap2 (x :: l)) :
    Calls Try.prog 10 #[.pointer none, .pointer (some ⟨gb, 0, none⟩)] w fun e w' => e = .returned (.tuple #[.int .i64 x, .int .i64 2]) ∧ Ch w' gd cap2 l ∧ Only gd w w' := by
  have c1 := hb.cell 0
  obtain ⟨s2, r2, hc2⟩ := h2
  refine calls_of_loneTo fun cs => ?_
  have e : Frame.enter Try.prog 10 #[.pointer none, .pointer (some ⟨gb, 0, none⟩)] .normal = (base 10).at ⟨#[.pointer none, .pointer (some ⟨gb, 0, none⟩), undef, undef, undef, undef, undef, undef, undef, undef, undef, undef, undef, undef, undef, undef, undef, undef, undef, undef, undef, undef, undef, undef, undef, undef, undef, undef, undef, undef, undef, undef, undef], []⟩ [.code (Try.f10.body.getD .skip)] := by
    simp [Frame.enter, Frame.at, Try.func10, base, Try.f10]
  rw [e]
  clear e
  refine LoneTo.goes (n := 80) ?_
  simp only [Try.f10, Option.getD_some]
  s_c stepG_seq
  s_reg
  s_op
  s_op
  s_c stepG_region_end
  s_c stepG_seq
  s_reg
  s_op
  s_op
  s_c stepG_region_end
  s_c stepG_seq
  s_c stepG_seq
  s_reg
  s_op
  s_op
  s_c stepG_region_end
  s_cond false
  s_c stepG_skip
  s_c stepG_seq
  s_c stepG_seq
  s_reg
  s_op
  s_op
  s_c stepG_region_end
  s_cond true
  s_reg
  s_op
  s_op
  s_op
  s_op
  s_op
  s_c stepG_region_end
  s_c stepG_seq
  s_c stepG_seq
  s_reg
  s_op
  s_c stepG_region_end
  s_c stepG_seq
  s_reg
  s_stop
  refine LoneTo.step (step_lone_select_recv_nil (z := .int .i64 0) (stepG_comm (cases := #[rcaseNil (.int .i64 0)]) (blocking := false) (shape := .select) (w' := w) rfl rfl (by decide) (by simp [go_sem, execOp, rcaseNil, Act.eval]))) ?_
  rw [Frame.finish_at]
  walk_nrm
  refine LoneTo.goes (n := 80) ?_
  s_op
  s_op
  s_c stepG_region_end
  s_c stepG_block
  s_cond false
  s_c stepG_skip
  s_c stepG_inBlock
  s_c stepG_seq
  s_reg
  s_op
  s_c stepG_region_end
  s_c stepG_seq
  s_reg
  s_stop
  refine LoneTo.step (step_lone_select_recv_buf (c := gd) (z := .int .i64 0) (stepG_comm (cases := #[rcase gd (.int .i64 0)]) (blocking := false) (shape := .select) (w' := w) rfl rfl (by decide) (by simp [go_sem, execOp, rcase, Act.eval])) hc2 (by rw [ints_size]; simp)) ?_
  rw [ints_head, ints_pop]
  rw [Frame.finish_at]
  walk_nrm
  refine LoneTo.goes (n := 80) ?_
  s_op
  s_op
  s_c stepG_region_end
  s_c stepG_block
  s_cond true
  s_c stepG_seq
  s_reg
  s_op
  s_op
  s_c stepG_region_end
  s_c stepG_seq
  s_reg
  s_op
  s_op
  s_op
  s_c stepG_region_end
  s_c stepG_ret'
  s_stop
  refine LoneTo.done ⟨.returned (.tuple #[.int .i64 x, .int .i64 2]), _, rfl, ⟨rfl, ch_set (Ch.lt ⟨s2, r2, hc2⟩) cap2 _ _ _, only_setChan w gd _ _ _ _ _ _⟩, rfl, rfl, rfl, rfl, _, Try.func10, by simp [results, Try.f10, Frame.at]⟩

set_option maxRecDepth 100000 in
theorem either_nil_empty (w : World) {gb gd cap2 : Nat} (hb : Blk w gb 64 #[.chan (some gd)]) (h2 : Ch w gd cap2 []) :
    Calls Try.prog 10 #[.pointer none, .pointer (some ⟨gb, 0, none⟩)] w fun e w' => e = .returned (.tuple #[.int .i64 0, .int .i64 0]) ∧ w = w' := by
  have c1 := hb.cell 0
  obtain ⟨s2, r2, hc2⟩ := h2
  refine calls_of_loneTo fun cs => ?_
  have e : Frame.enter Try.prog 10 #[.pointer none, .pointer (some ⟨gb, 0, none⟩)] .normal = (base 10).at ⟨#[.pointer none, .pointer (some ⟨gb, 0, none⟩), undef, undef, undef, undef, undef, undef, undef, undef, undef, undef, undef, undef, undef, undef, undef, undef, undef, undef, undef, undef, undef, undef, undef, undef, undef, undef, undef, undef, undef, undef, undef], []⟩ [.code (Try.f10.body.getD .skip)] := by
    simp [Frame.enter, Frame.at, Try.func10, base, Try.f10]
  rw [e]
  clear e
  refine LoneTo.goes (n := 80) ?_
  simp only [Try.f10, Option.getD_some]
  s_c stepG_seq
  s_reg
  s_op
  s_op
  s_c stepG_region_end
  s_c stepG_seq
  s_reg
  s_op
  s_op
  s_c stepG_region_end
  s_c stepG_seq
  s_c stepG_seq
  s_reg
  s_op
  s_op
  s_c stepG_region_end
  s_cond false
  s_c stepG_skip
  s_c stepG_seq
  s_c stepG_seq
  s_reg
  s_op
  s_op
  s_c stepG_region_end
  s_cond true
  s_reg
  s_op
  s_op
  s_op
  s_op
  s_op
  s_c stepG_region_end
  s_c stepG_seq
  s_c stepG_seq
  s_reg
  s_op
  s_c stepG_region_end
  s_c stepG_seq
  s_reg
  s_stop
  refine LoneTo.step (step_lone_select_recv_nil (z := .int .i64 0) (stepG_comm (cases := #[rcaseNil (.int .i64 0)]) (blocking := false) (shape := .select) (w' := w) rfl rfl (by decide) (by simp [go_sem, execOp, rcaseNil, Act.eval]))) ?_
  rw [Frame.finish_at]
  walk_nrm
  refine LoneTo.goes (n := 80) ?_
  s_op
  s_op
  s_c stepG_region_end
  s_c stepG_block
  s_cond false
  s_c stepG_skip
  s_c stepG_inBlock
  s_c stepG_seq
  s_reg
  s_op
  s_c stepG_region_end
  s_c stepG_seq
  s_reg
  s_stop
  refine LoneTo.step (step_lone_select_default (c := gd) (z := .int .i64 0) (stepG_comm (cases := #[rcase gd (.int .i64 0)]) (blocking := false) (shape := .select) (w' := w) rfl rfl (by decide) (by simp [go_sem, execOp, rcase, Act.eval])) hc2) ?_
  rw [Frame.finish_at]
  walk_nrm
  refine LoneTo.goes (n := 80) ?_
  s_op
  s_op
  s_c stepG_region_end
  s_c stepG_block
  s_cond false
  s_c stepG_seq
  s_reg
  s_op
  s_op
  s_op
  s_c stepG_region_end
  s_c stepG_ret'
  s_stop
  refine LoneTo.done ⟨.returned (.tuple #[.int .i64 0, .int .i64 0]), _, rfl, ⟨rfl, rfl⟩, rfl, rfl, rfl, rfl, _, Try.func10, by simp [results, Try.f10, Frame.at]⟩

set_option maxRecDepth 100000 in
theorem either_nil_nil (w : World) :
    Calls Try.prog 10 #[.pointer none, .pointer none] w fun e w' => e = .returned (.tuple #[.int .i64 0, .int .i64 0]) ∧ w = w' := by
  refine calls_of_loneTo fun cs => ?_
  have e : Frame.enter Try.prog 10 #[.pointer none, .pointer none] .normal = (base 10).at ⟨#[.pointer none, .pointer none, undef, undef, undef, undef, undef, undef, undef, undef, undef, undef, undef, undef, undef, undef, undef, undef, undef, undef, undef, undef, undef, undef, undef, undef, undef, undef, undef, undef, undef, undef, undef], []⟩ [.code (Try.f10.body.getD .skip)] := by
    simp [Frame.enter, Frame.at, Try.func10, base, Try.f10]
  rw [e]
  clear e
  refine LoneTo.goes (n := 80) ?_
  simp only [Try.f10, Option.getD_some]
  s_c stepG_seq
  s_reg
  s_op
  s_op
  s_c stepG_region_end
  s_c stepG_seq
  s_reg
  s_op
  s_op
  s_c stepG_region_end
  s_c stepG_seq
  s_c stepG_seq
  s_reg
  s_op
  s_op
  s_c stepG_region_end
  s_cond false
  s_c stepG_skip
  s_c stepG_seq
  s_c stepG_seq
  s_reg
  s_op
  s_op
  s_c stepG_region_end
  s_cond false
  s_c stepG_skip
  s_c stepG_seq
  s_c stepG_seq
  s_reg
  s_op
  s_c stepG_region_end
  s_c stepG_seq
  s_reg
  s_stop
  refine LoneTo.step (step_lone_select_recv_nil (z := .int .i64 0) (stepG_comm (cases := #[rcaseNil (.int .i64 0)]) (blocking := false) (shape := .select) (w' := w) rfl rfl (by decide) (by simp [go_sem, execOp, rcaseNil, Act.eval]))) ?_
  rw [Frame.finish_at]
  walk_nrm
  refine LoneTo.goes (n := 80) ?_
  s_op
  s_op
  s_c stepG_region_end
  s_c stepG_block
  s_cond false
  s_c stepG_skip
  s_c stepG_inBlock
  s_c stepG_seq
  s_reg
  s_op
  s_c stepG_region_end
  s_c stepG_seq
  s_reg
  s_stop
  refine LoneTo.step (step_lone_select_recv_nil (z := .int .i64 0) (stepG_comm (cases := #[rcaseNil (.int .i64 0)]) (blocking := false) (shape := .select) (w' := w) rfl rfl (by decide) (by simp [go_sem, execOp, rcaseNil, Act.eval]))) ?_
  rw [Frame.finish_at]
  walk_nrm
  refine LoneTo.goes (n := 80) ?_
  s_op
  s_op
  s_c stepG_region_end
  s_c stepG_block
  s_cond false
  s_c stepG_seq
  s_reg
  s_op
  s_op
  s_op
  s_c stepG_region_end
  s_c stepG_ret'
  s_stop
  refine LoneTo.done ⟨.returned (.tuple #[.int .i64 0, .int .i64 0]), _, rfl, ⟨rfl, rfl⟩, rfl, rfl, rfl, rfl, _, Try.func10, by simp [results, Try.f10, Frame.at]⟩

end Go.Proofs.Ytepfggfideianaa
