/- slices.ContainsFunc at entries and owners; Right, Did of the program (chapter 13). -/
import Derived.Test.YtjbmlhipjceeeaaGreatProg
import Derived.Test.YtjbmlhipjceeeaaGreatMfE
namespace Go.Proofs.YtjbmlhipjceeeaaGreat.Mf
set_option linter.unusedVariables false
set_option linter.unusedSimpArgs false
open Go.RowKit Go.Proofs.YtjbmlhipjceeeaaGreat

/-- A function value that tells p of a list's things and turns nothing, wherever what is there lies so. -/
def Tells {α : Type} (w0 : World) (g : Nat) (lb : Array Value) (V : α → Value) (p : α → Bool) (l : List α) : Prop :=
  (∀ args w, (callFunc g args).run Tryz.prog w = .ok (.enter g args) w) ∧ ∀ x ∈ l, ∀ W, Below w0.heap.size w0 W → Calls Tryz.prog g (#[V x] ++ lb) W fun e w' => e = .returned (.bool (p x)) ∧ Below W.heap.size W w'
theorem any_step {α : Type} [Inhabited α] {p : α → Bool} {l : List α} {k : Nat} (h : ∀ i, i < k → p (gt l i) = false) (h1 : p (gt l k) = false) : ∀ i, i < k + 1 → p (gt l i) = false := by
  intro i hi
  rcases Nat.lt_or_ge i k with h3 | h3
  · exact h i h3
  · obtain rfl : i = k := by omega
    exact h1
theorem any_no {α : Type} [Inhabited α] {p : α → Bool} {l : List α} (h : ∀ i, i < l.length → p (gt l i) = false) : l.any p = false := by
  rw [List.any_eq_false]
  intro x hx
  obtain ⟨i, hi, rfl⟩ := mem_gt hx
  rw [h i hi]; decide
theorem any_yes {α : Type} [Inhabited α] {p : α → Bool} {l : List α} {k : Nat} (hk : k < l.length) (h : p (gt l k) = true) : l.any p = true := List.any_eq_true.2 ⟨_, gt_mem hk, h⟩

set_option maxRecDepth 100000 in
set_option maxHeartbeats 1600000 in
theorem indexE_calls (w : World) {B c g : Nat} {lb : Array Value} {A : Option Addr} {l : List En} {p : En → Bool} (ht : Tells w g lb enV p l) (h : Reads w B 9 A l.length (l.flatMap En.cs)) (hB : B ≤ w.heap.size) (hn : l.length ≤ 17592186044416) :
    Calls Tryz.prog 91 #[.slice A l.length c, .func (.func g) #[] lb] w fun e w' => (∃ z : Int, e = .returned (.int .i64 z) ∧ decide (0 ≤ z) = l.any p) ∧ Below w.heap.size w w' := by
  have HR := Lib.hid h
  have HT := Lib.hid ht.2
  have eg := ht.1
  clear h ht
  go_enter Tryz.func91, Tryz.ntmps91
  go_wp2
  go_loopw [8] (fun i wr => ∃ j : Nat, j ≤ l.length ∧ i = .int .i64 (j : Int) ∧ Hid (∀ k, k < j → p (gt l k) = false) ∧ Below w.heap.size w wr) (fun i _ => l.length - (intOf i).toNat)
  case atStart => exact ⟨0, Nat.zero_le _, rfl, Lib.hid (fun k hk => absurd hk (Nat.not_lt_zero k)), Below.refl _ _⟩
  case round =>
    obtain ⟨j, hj, rfl, HF, hbel⟩ := hrel
    by_cases hlt : j < l.length
    · have hsz := hbel.size
      have hr := HR.out.below (hbel.mono hB)
      obtain ⟨b, off, rfl, hbB⟩ := row_addr hr (by omega)
      obtain ⟨p0, p1, p2, p3, p4, p5, p6, p7, p8⟩ : wr.cell? ⟨b, off + j * 9, none⟩ = some (.string (gt l j).key) ∧ wr.cell? ⟨b, off + j * 9 + 1, none⟩ = some (.int .i64 (gt l j).window) ∧ wr.cell? ⟨b, off + j * 9 + 2, none⟩ = some (.string (gt l j).part) ∧ wr.cell? ⟨b, off + j * 9 + 3, none⟩ = some (.int .i64 (gt l j).first) ∧ wr.cell? ⟨b, off + j * 9 + 4, none⟩ = some (.int .i64 (gt l j).last) ∧ wr.cell? ⟨b, off + j * 9 + 5, none⟩ = some (.int .i64 (gt l j).rows) ∧ wr.cell? ⟨b, off + j * 9 + 6, none⟩ = some (.int .i64 (gt l j).size) ∧ wr.cell? ⟨b, off + j * 9 + 7, none⟩ = some (.int .u32 (gt l j).sum) ∧ wr.cell? ⟨b, off + j * 9 + 8, none⟩ = some (.int .i64 (gt l j).born) := ⟨row_cell ecs_len hr hlt (j := 0) rfl, row_cell ecs_len hr hlt (j := 1) rfl, row_cell ecs_len hr hlt (j := 2) rfl, row_cell ecs_len hr hlt (j := 3) rfl, row_cell ecs_len hr hlt (j := 4) rfl, row_cell ecs_len hr hlt (j := 5) rfl, row_cell ecs_len hr hlt (j := 6) rfl, row_cell ecs_len hr hlt (j := 7) rfl, row_cell ecs_len hr hlt (j := 8) rfl⟩
      have HT2 := Lib.hid (HT.out (gt l j) (gt_mem hlt) wr hbel)
      have HS := Lib.hid fun (hp : p (gt l j) = true) => any_yes hlt hp
      have HN := Lib.hid fun (hp : p (gt l j) = false) => any_step HF.out hp
      clear hr HR HT HF
      generalize gt l j = x at *
      go_wp2_with fail
      refine HT2.out.mono ?_
      rintro e w' ⟨rfl, hb'⟩
      cases hp : p x with
      | true =>
        have e1 := Lib.hid (HS.out hp)
        go_wp2
        go_ret
        exact ⟨⟨_, rfl, by rw [e1.out]; exact dct (by omega)⟩, hbel.trans (hb'.mono hsz)⟩
      | false =>
        have HN2 := Lib.hid (HN.out hp)
        go_wp2
        go_roundw
        case rel => exact ⟨j + 1, by omega, by go_num, HN2, hbel.trans (hb'.mono hsz)⟩
        case measure => simp [intOf]; omega
    · obtain rfl : j = l.length := by omega
      have e1 := Lib.hid (any_no HF.out)
      go_wp2
      go_ret
      exact ⟨⟨-1, rfl, by rw [e1.out]; rfl⟩, hbel⟩
set_option maxRecDepth 100000 in
set_option maxHeartbeats 1600000 in
theorem indexO_calls (w : World) {B c g : Nat} {lb : Array Value} {A : Option Addr} {l : List Ow} {p : Ow → Bool} (ht : Tells w g lb owV p l) (h : Reads w B 3 A l.length (l.flatMap Ow.cs)) (hB : B ≤ w.heap.size) (hn : l.length ≤ 17592186044416) :
    Calls Tryz.prog 100 #[.slice A l.length c, .func (.func g) #[] lb] w fun e w' => (∃ z : Int, e = .returned (.int .i64 z) ∧ decide (0 ≤ z) = l.any p) ∧ Below w.heap.size w w' := by
  have HR := Lib.hid h
  have HT := Lib.hid ht.2
  have eg := ht.1
  clear h ht
  go_enter Tryz.func100, Tryz.ntmps100
  go_wp2
  go_loopw [8] (fun i wr => ∃ j : Nat, j ≤ l.length ∧ i = .int .i64 (j : Int) ∧ Hid (∀ k, k < j → p (gt l k) = false) ∧ Below w.heap.size w wr) (fun i _ => l.length - (intOf i).toNat)
  case atStart => exact ⟨0, Nat.zero_le _, rfl, Lib.hid (fun k hk => absurd hk (Nat.not_lt_zero k)), Below.refl _ _⟩
  case round =>
    obtain ⟨j, hj, rfl, HF, hbel⟩ := hrel
    by_cases hlt : j < l.length
    · have hsz := hbel.size
      have hr := HR.out.below (hbel.mono hB)
      obtain ⟨b, off, rfl, hbB⟩ := row_addr hr (by omega)
      obtain ⟨p0, p1, p2⟩ : wr.cell? ⟨b, off + j * 3, none⟩ = some (.int .i64 (gt l j).agent) ∧ wr.cell? ⟨b, off + j * 3 + 1, none⟩ = some (.int .i64 (gt l j).life) ∧ wr.cell? ⟨b, off + j * 3 + 2, none⟩ = some (.int .i64 (gt l j).count) := ⟨row_cell ocs_len hr hlt (j := 0) rfl, row_cell ocs_len hr hlt (j := 1) rfl, row_cell ocs_len hr hlt (j := 2) rfl⟩
      have HT2 := Lib.hid (HT.out (gt l j) (gt_mem hlt) wr hbel)
      have HS := Lib.hid fun (hp : p (gt l j) = true) => any_yes hlt hp
      have HN := Lib.hid fun (hp : p (gt l j) = false) => any_step HF.out hp
      clear hr HR HT HF
      generalize gt l j = x at *
      go_wp2_with fail
      refine HT2.out.mono ?_
      rintro e w' ⟨rfl, hb'⟩
      cases hp : p x with
      | true =>
        have e1 := Lib.hid (HS.out hp)
        go_wp2
        go_ret
        exact ⟨⟨_, rfl, by rw [e1.out]; exact dct (by omega)⟩, hbel.trans (hb'.mono hsz)⟩
      | false =>
        have HN2 := Lib.hid (HN.out hp)
        go_wp2
        go_roundw
        case rel => exact ⟨j + 1, by omega, by go_num, HN2, hbel.trans (hb'.mono hsz)⟩
        case measure => simp [intOf]; omega
    · obtain rfl : j = l.length := by omega
      have e1 := Lib.hid (any_no HF.out)
      go_wp2
      go_ret
      exact ⟨⟨-1, rfl, by rw [e1.out]; rfl⟩, hbel⟩
theorem anyE_calls (w : World) {B c g : Nat} {lb : Array Value} {A : Option Addr} {l : List En} {p : En → Bool} (ht : Tells w g lb enV p l) (h : Reads w B 9 A l.length (l.flatMap En.cs)) (hB : B ≤ w.heap.size) (hn : l.length ≤ 17592186044416) :
    Calls Tryz.prog 47 #[.slice A l.length c, .func (.func g) #[] lb] w fun e w' => e = .returned (.bool (l.any p)) ∧ Below w.heap.size w w' := by
  have HI := Lib.hid (indexE_calls w (c := c) ht h hB hn)
  clear ht h
  go_enter Tryz.func47, Tryz.ntmps47
  go_wp2_with fail
  refine HI.out.mono ?_
  rintro e w1 ⟨⟨z, rfl, hz⟩, hb1⟩
  have HZ := Lib.hid hz
  clear hz HI
  go_wp2
  go_ret
  exact ⟨by rw [← HZ.out]; rfl, hb1⟩
theorem anyO_calls (w : World) {B c g : Nat} {lb : Array Value} {A : Option Addr} {l : List Ow} {p : Ow → Bool} (ht : Tells w g lb owV p l) (h : Reads w B 3 A l.length (l.flatMap Ow.cs)) (hB : B ≤ w.heap.size) (hn : l.length ≤ 17592186044416) :
    Calls Tryz.prog 71 #[.slice A l.length c, .func (.func g) #[] lb] w fun e w' => e = .returned (.bool (l.any p)) ∧ Below w.heap.size w w' := by
  have HI := Lib.hid (indexO_calls w (c := c) ht h hB hn)
  clear ht h
  go_enter Tryz.func71, Tryz.ntmps71
  go_wp2_with fail
  refine HI.out.mono ?_
  rintro e w1 ⟨⟨z, rfl, hz⟩, hb1⟩
  have HZ := Lib.hid hz
  clear hz HI
  go_wp2
  go_ret
  exact ⟨by rw [← HZ.out]; rfl, hb1⟩

/-! ### the closures -/
theorem low_calls (x : En) (w : World) {gm : Nat} {cut : Int} (hc : w.cell? ⟨gm, 1, none⟩ = some (.int .i64 cut)) : Calls Tryz.prog 48 #[enV x, .pointer (some ⟨gm, 0, none⟩)] w fun e w' => e = .returned (.bool (decide (x.window < cut))) ∧ Below w.heap.size w w' := by
  have hlt := World.block_lt_of_cell? w _ hc
  have hc2 : (w.alloc (.cells #[.string x.key, .int .i64 x.window, .string x.part, .int .i64 x.first, .int .i64 x.last, .int .i64 x.rows, .int .i64 x.size, .int .u32 x.sum, .int .i64 x.born] 42)).cell? ⟨gm, 1, none⟩ = some (.int .i64 cut) := (World.cell?_alloc_lt w _ _ hlt).trans hc
  go_enter Tryz.func48, Tryz.ntmps48
  go_wp2
  go_ret
  exact ⟨rfl, (Below.refl _ _).alloc (Nat.le_refl _) _⟩
def didB (y x : Ow) : Bool := decide (x.agent = y.agent) && decide (x.life = y.life) && decide (y.count ≤ x.count)
theorem did_calls (x y : Ow) (w : World) {gb : Nat} (hc : w.cell? ⟨gb, 0, none⟩ = some (.int .i64 y.agent) ∧ w.cell? ⟨gb, 1, none⟩ = some (.int .i64 y.life) ∧ w.cell? ⟨gb, 2, none⟩ = some (.int .i64 y.count)) : Calls Tryz.prog 72 #[owV x, .pointer (some ⟨gb, 0, none⟩)] w fun e w' => e = .returned (.bool (didB y x)) ∧ Below w.heap.size w w' := by
  obtain ⟨q0, q1, q2⟩ := hc
  have hlt := World.block_lt_of_cell? w _ q0
  have p0 : (w.alloc (.cells #[.int .i64 x.agent, .int .i64 x.life, .int .i64 x.count] 29)).cell? ⟨gb, 0, none⟩ = some (.int .i64 y.agent) := (World.cell?_alloc_lt w _ ⟨gb, 0, none⟩ hlt).trans q0
  have p1 : (w.alloc (.cells #[.int .i64 x.agent, .int .i64 x.life, .int .i64 x.count] 29)).cell? ⟨gb, 1, none⟩ = some (.int .i64 y.life) := (World.cell?_alloc_lt w _ ⟨gb, 1, none⟩ hlt).trans q1
  have p2 : (w.alloc (.cells #[.int .i64 x.agent, .int .i64 x.life, .int .i64 x.count] 29)).cell? ⟨gb, 2, none⟩ = some (.int .i64 y.count) := (World.cell?_alloc_lt w _ ⟨gb, 2, none⟩ hlt).trans q2
  have HD : Hid (didB y x = (decide (x.agent = y.agent) && decide (x.life = y.life) && decide (y.count ≤ x.count))) := Lib.hid rfl
  clear q0 q1 q2
  generalize didB y x = out at *
  by_cases e0 : x.agent = y.agent
  · have te0 : (x.agent == y.agent) = true := eqt e0
    by_cases e1 : x.life = y.life
    · have te1 : (x.life == y.life) = true := eqt e1
      by_cases e2 : y.count ≤ x.count
      · have te2 : decide (y.count ≤ x.count) = true := dct e2
        have HV : Hid (out = true) := Lib.hid (by rw [HD.out, dct e0, dct e1, dct e2]; rfl)
        clear HD e0 e1 e2
        go_enter Tryz.func72, Tryz.ntmps72
        go_wp2
        go_ret
        exact ⟨by rw [HV.out]; rfl, (Below.refl _ _).alloc (Nat.le_refl _) _⟩
      · have te2 : decide (y.count ≤ x.count) = false := dcf e2
        have HV : Hid (out = false) := Lib.hid (by rw [HD.out, dcf e2]; simp)
        clear HD
        (try clear e0); (try clear e1); (try clear e2)
        go_enter Tryz.func72, Tryz.ntmps72
        go_wp2
        go_ret
        exact ⟨by rw [HV.out]; rfl, (Below.refl _ _).alloc (Nat.le_refl _) _⟩
    · have te1 : (x.life == y.life) = false := eqf e1
      have HV : Hid (out = false) := Lib.hid (by rw [HD.out, dcf e1]; simp)
      clear HD
      (try clear e0); (try clear e1); (try clear e2)
      go_enter Tryz.func72, Tryz.ntmps72
      go_wp2
      go_ret
      exact ⟨by rw [HV.out]; rfl, (Below.refl _ _).alloc (Nat.le_refl _) _⟩
  · have te0 : (x.agent == y.agent) = false := eqf e0
    have HV : Hid (out = false) := Lib.hid (by rw [HD.out, dcf e0]; simp)
    clear HD
    (try clear e0); (try clear e1); (try clear e2)
    go_enter Tryz.func72, Tryz.ntmps72
    go_wp2
    go_ret
    exact ⟨by rw [HV.out]; rfl, (Below.refl _ _).alloc (Nat.le_refl _) _⟩
end Go.Proofs.YtjbmlhipjceeeaaGreat.Mf
