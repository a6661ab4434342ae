/- Rows in memory of their own; their order (chapter 9). -/
import Derived.Test.YtennddlihcamnaaProg
import Derived.Test.YtennddlihcamnaaRwD
import Derived.Test.YtennddlihcamnaaTri
import Derived.Test.YtennddlihcamnaaRecF
namespace Go.Proofs.Ytennddlihcamnaa
set_option linter.unusedVariables false
set_option linter.unusedSimpArgs false
open Go.RowKit Go.Proofs.Ytennddlihcamnaa.So

/-- All that a row holds can be counted. -/
structure FitW (x : Rw) : Prop where
  fit : Fit x.labs
  len : x.labs.length ≤ 4398046511104
  text : x.text.size ≤ 140737488351232
  time : -9223372036854775808 ≤ x.time ∧ x.time ≤ 9223372036854775807
  value : -9223372036854775808 ≤ x.value ∧ x.value ≤ 9223372036854775807
theorem Rows.fits {w : World} {B : Nat} {A : Option Addr} {l : List Rw} (h : Rows w B A l) : ∀ x ∈ l, FitW x := fun x hx => ⟨(h.each x hx).fit, (h.each x hx).len, (h.each x hx).text, (h.each x hx).time, (h.each x hx).value⟩
theorem FitW.same {x y : Rw} (h : FitW x) (he : x.logic = y.logic) : FitW y := by
  have h1 : FitW x.logic := ⟨h.fit, h.len, h.text, h.time, h.value⟩
  rw [he] at h1
  exact ⟨h1.fit, h1.len, h1.text, h1.time, h1.value⟩
theorem SameL.fits {l m : List Rw} (h : SameL l m) (hf : ∀ x ∈ l, FitW x) : ∀ x ∈ m, FitW x := by
  intro x hx
  have h1 : x.logic ∈ l.map Rw.logic := by
    rw [show l.map Rw.logic = m.map Rw.logic from h]
    exact List.mem_map_of_mem hx
  obtain ⟨y, hy, e⟩ := List.mem_map.1 h1
  exact (hf y hy).same e
/-- Rows in memory of their own, their labels too. -/
structure RowsO (w : World) (base : Nat) (v : Value) (d : List Rw) : Prop where
  own : w.ownsRow base 37 9 v d.length (Sr.flat Rw.c d)
  each : ∀ x ∈ d, w.ownsRow base 39 2 (.slice x.A x.labs.length x.cp) x.labs.length (labCells x.labs)
section
variable {w w' : World} {base base' : Nat} {v v' : Value} {d : List Rw}
theorem RowsO.below (h : RowsO w base v d) (hb : Below w.heap.size w w') : RowsO w' base v d := ⟨own_below h.own hb, fun x hx => own_below (h.each x hx) hb⟩
theorem RowsO.low (h : RowsO w base v d) (hb : base' ≤ base) : RowsO w base' v d := ⟨own_base h.own hb, fun x hx => own_base (h.each x hx) hb⟩
theorem RowsO.nil (w : World) (base : Nat) : RowsO w base (.slice none 0 0) [] := ⟨World.ownsRow_nil _ _ _ _, fun x hx => absurd hx (by simp)⟩
theorem RowsO.snoc {x : Rw} (h : RowsO w base v d) (hp : w.ownsRow base 39 2 (.slice x.A x.labs.length x.cp) x.labs.length (labCells x.labs))
    (hown : w'.ownsRow base 37 9 v' (d.length + 1) (Sr.flat Rw.c d ++ Sr.nine Rw.c x)) (hg : w.grownBy w' v.ownBlock) : RowsO w' base v' (d ++ [x]) := by
  refine ⟨?_, fun y hy => ?_⟩
  · rw [Sr.flat_app, List.length_append, show Sr.flat Rw.c [x] = Sr.nine Rw.c x from by simp [Sr.flat]]
    exact hown
  · rcases List.mem_append.1 hy with h1 | h1
    · exact own_other (h.each y h1) h.own (by decide) hg
    · obtain rfl := List.mem_singleton.1 h1
      exact own_other hp h.own (by decide) hg
theorem RowsO.rows {A : Option Addr} {c : Nat} (h : RowsO w base (.slice A d.length c) d) (hf : ∀ x ∈ d, FitW x) : Rows w w.heap.size A d :=
  ⟨Reads.of_own h.own, fun x hx => ⟨Reads.of_own (h.each x hx), (hf x hx).fit, (hf x hx).len, (hf x hx).text, (hf x hx).time, (hf x hx).value⟩⟩
end
theorem nine_one (x : Rw) : ∀ u ∈ Sr.nine Rw.c x, u.oneCell' = true := by
  intro u hu
  simp [Sr.nine] at hu
  rcases hu with rfl | rfl | rfl | rfl | rfl | rfl | rfl | rfl | rfl <;> exact Rw.one x _
theorem twinRw_calls (w : World) {B : Nat} (x : Rw) (h : Labs w B x.A x.labs) (hB : B ≤ w.heap.size) (hn : x.labs.length ≤ 4398046511104) :
    Calls Try.prog 35 #[rwA x] w fun e w' => ∃ A' c', e = .returned (rwA { x with A := A', cp := c' }) ∧ w'.ownsRow w.heap.size 39 2 (.slice A' x.labs.length c') x.labs.length (labCells x.labs) ∧ Below w.heap.size w w' :=
  rtwin_calls w ⟨x.kind, x.time, x.A, x.cp, x.labs, x.text, x.value, x.null⟩ x.maker x.seq x.place h hB hn

/- The order. -/
theorem triR : Tri cfR := by
  have h : Tri fun x y : Rw => if cmpI x.time y.time = 0 then (if cmpI x.maker y.maker = 0 then (if cmpI x.seq y.seq = 0 then cmpI x.place y.place else cmpI x.seq y.seq) else cmpI x.maker y.maker) else cmpI x.time y.time :=
    (triI.on Rw.time).lex ((triI.on Rw.maker).lex ((triI.on Rw.seq).lex (triI.on Rw.place)))
  have e : cfR = fun x y : Rw => if cmpI x.time y.time = 0 then (if cmpI x.maker y.maker = 0 then (if cmpI x.seq y.seq = 0 then cmpI x.place y.place else cmpI x.seq y.seq) else cmpI x.maker y.maker) else cmpI x.time y.time := by
    funext x y
    exact orI4 _ _ _ _
  rw [e]
  exact h
theorem swoR : Swo (Sr.ltc cfR) := triR.swo fun _ _ => rfl
theorem ltc_logic (x y : Rw) : Sr.ltc cfR x.logic y.logic = Sr.ltc cfR x y := rfl
theorem mg_logic : ∀ (l r : List Rw), (mg (Sr.ltc cfR) l r).map Rw.logic = mg (Sr.ltc cfR) (l.map Rw.logic) (r.map Rw.logic)
  | [], r => by rw [mg_nil_l, List.map_nil, mg_nil_l]
  | a :: l, [] => by rw [mg_nil, List.map_nil, mg_nil]
  | a :: l, b :: r => by
    have h1 := mg_logic l (b :: r)
    have h2 := mg_logic (a :: l) r
    simp only [List.map_cons] at h1 h2 ⊢
    unfold mg
    rw [ltc_logic]
    split
    · rw [List.map_cons, h2]
    · rw [List.map_cons, h1]
theorem isort_logic (l : List Rw) : (isort (Sr.ltc cfR) l).map Rw.logic = isort (Sr.ltc cfR) (l.map Rw.logic) := by
  refine snoc_ind (p := fun l => (isort (Sr.ltc cfR) l).map Rw.logic = isort (Sr.ltc cfR) (l.map Rw.logic)) rfl (fun l x h => ?_) l
  rw [isort_snoc, mg_logic, h, List.map_append, List.map_cons, List.map_nil, isort_snoc]
theorem SameL.sorted {l m : List Rw} (h : SameL l m) : SameL (isort (Sr.ltc cfR) l) (isort (Sr.ltc cfR) m) := by
  show List.map _ _ = List.map _ _
  rw [isort_logic, isort_logic, show l.map Rw.logic = m.map Rw.logic from h]

set_option maxRecDepth 100000 in
theorem sortR_calls (N : Nat) (base g cap : Nat) (w : World) (D0 : List Rw) (h : Sr.RowE Rw.c w base g cap D0) (hN : D0.length = N) (hd : N ≤ 1099511627776) :
    Calls Try.prog 37 #[.slice (some ⟨g, 0, none⟩) N cap, .func (.func 20) #[] #[]] w fun e w' =>
      e = .returned (.tuple #[]) ∧ Sr.RowE Rw.c w' base g cap (isort (Sr.ltc cfR) D0) ∧ Only g w w' :=
  Sr.sortStable_calls Rw.c Rw.one cfR 20 (fun W x y => cmpRw_calls W x y) (enters_of Try.func20 (by kernel_rfl) rfl) swoR N base g cap w D0 h hN hd
set_option maxRecDepth 100000 in
theorem insR_nil (w : World) (fv : Value) (c : Nat) :
    Calls Try.prog 68 #[.slice none 0 c, .int .i64 0, .int .i64 0, fv] w fun e w' => e = .returned (.tuple #[]) ∧ Below w.heap.size w w' := by
  go_enter Try.func68, Try.ntmps68
  go_wp2
  go_loopw [8] (fun i wr => i = .int .i64 1 ∧ wr = w) (fun _ _ => 0)
  case atStart => exact ⟨rfl, rfl⟩
  case round =>
    obtain ⟨rfl, rfl⟩ := hrel
    go_wp2
    go_end0
    exact ⟨rfl, Below.refl _ _⟩
set_option maxRecDepth 100000 in
theorem stableR_nil (w : World) (fv : Value) (c : Nat) :
    Calls Try.prog 54 #[.slice none 0 c, .int .i64 0, fv] w fun e w' => e = .returned (.tuple #[]) ∧ Below w.heap.size w w' := by
  have HI := Lib.hid (insR_nil w fv c)
  go_enter Try.func54, Try.ntmps54
  go_wp2
  go_loopw [7, 8] (fun a b wr => a = .int .i64 0 ∧ b = .int .i64 20 ∧ wr = w) (fun _ _ _ => 0)
  case atStart => exact ⟨rfl, rfl, rfl⟩
  case round =>
    obtain ⟨rfl, rfl, rfl⟩ := hrel
    go_wp2_with fail
    refine HI.out.mono ?_
    rintro e w1 ⟨rfl, hb1⟩
    go_wp2
    go_loopw [6] (fun a wx => a = .int .i64 20 ∧ wx = w1) (fun _ _ => 0)
    case atStart => exact ⟨rfl, rfl⟩
    case round =>
      obtain ⟨rfl, rfl⟩ := hrel
      go_wp2
      go_end0
      exact ⟨rfl, hb1⟩
set_option maxRecDepth 100000 in
theorem sortR_nil (w : World) (fv : Value) (c : Nat) :
    Calls Try.prog 37 #[.slice none 0 c, fv] w fun e w' => e = .returned (.tuple #[]) ∧ Below w.heap.size w w' := by
  have HI := Lib.hid (stableR_nil w fv c)
  go_enter Try.func37, Try.ntmps37
  go_wp2_with fail
  refine HI.out.mono ?_
  rintro e w1 ⟨rfl, hb1⟩
  go_wp2
  go_end0
  exact ⟨rfl, hb1⟩
end Go.Proofs.Ytennddlihcamnaa
