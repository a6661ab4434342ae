/- Matchers (chapter 8): how they lie in memory; the argument []api.Matcher opened; Asks of both. -/
import Derived.Test.YtbnlfljlomhngaaProg
import Derived.Test.YtbnlfljlomhngaaLabQ
namespace Go.Proofs.Ytbnlfljlomhngaa
open Go.RowKit
open Go.ChangeShapes Go.WideShapes

/-- A matcher: its name, its way, its value. -/
abbrev Mat := ByteArray × Int × ByteArray
def matV (m : Mat) : List Value := [.string m.1, .int .i64 m.2.1, .string m.2.2]
def matCells (l : List Mat) : List Value := l.flatMap matV
theorem matCells_len (l : List Mat) : (matCells l).length = l.length * 3 := by
  induction l with
  | nil => rfl
  | cons x r ih => simp only [matCells, matV, List.flatMap_cons, List.length_append, List.length_cons, List.length_nil] at ih ⊢; omega
theorem matCells_get : ∀ (l : List Mat) (i : Nat) (hi : i < l.length), (matCells l)[i * 3]? = some (.string l[i].1) ∧ (matCells l)[i * 3 + 1]? = some (.int .i64 l[i].2.1) ∧ (matCells l)[i * 3 + 2]? = some (.string l[i].2.2)
  | [], i, hi => absurd hi (by simp)
  | x :: r, 0, _ => ⟨rfl, rfl, rfl⟩
  | x :: r, i + 1, hi => by
    have h := matCells_get r i (by simpa using hi)
    have e1 : (i + 1) * 3 = i * 3 + 1 + 1 + 1 := by omega
    rw [e1]
    exact h
def matAt (l : List Mat) (i : Nat) : Mat := l.getD i (ByteArray.empty, 0, ByteArray.empty)
theorem matAt_eq {l : List Mat} {i : Nat} (h : i < l.length) : l[i] = matAt l i := by simp [matAt, List.getD, List.getElem?_eq_getElem h]
/-- A slice of matchers reads. -/
def Mats (w : World) (B : Nat) (A : Option Addr) (l : List Mat) : Prop := Reads w B 3 A l.length (matCells l)
section
variable {w w' : World} {B B' : Nat} {A : Option Addr} {l : List Mat}
theorem Mats.below (h : Mats w B A l) (hb : Below B w w') : Mats w' B A l := Reads.below h hb
theorem Mats.more (h : Mats w B A l) (hb : B ≤ B') : Mats w B' A l := Reads.more h hb
theorem Mats.nil_ : Mats w B A [] := ⟨rfl, fun h => absurd h (by simp)⟩
theorem Mats.cellAt (h : Mats w B A l) (hp : 0 < l.length) : ∃ b off, A = some ⟨b, off, none⟩ ∧ b < B ∧ ∀ j, j < l.length → w.cell? ⟨b, off + j * 3, none⟩ = some (.string (matAt l j).1) ∧ w.cell? ⟨b, off + j * 3 + 1, none⟩ = some (.int .i64 (matAt l j).2.1) ∧ w.cell? ⟨b, off + j * 3 + 2, none⟩ = some (.string (matAt l j).2.2) := by
  obtain ⟨b, off, e, hb, hc⟩ := h.2 hp
  refine ⟨b, off, e, hb, fun j hj => ?_⟩
  rw [← matAt_eq hj]
  obtain ⟨g0, g1, g2⟩ := matCells_get l j hj
  exact ⟨hc _ _ g0, by rw [Nat.add_assoc]; exact hc _ _ g1, by rw [Nat.add_assoc]; exact hc _ _ g2⟩
end
/-- All names and values are short enough to be counted. -/
def FitM (m : Mat) : Prop := m.1.size ≤ 140737488351232 ∧ m.2.2.size ≤ 140737488351232

theorem arg_mats {H : Type} {enc : TypeId × Value → H} {W : World} {base : Nat} {v : Value} {d : DataW H} {p : List MemPlace} (h : Arg enc Try.prog W base 40 v d p) :
    ∃ (A : Option Addr) (c : Nat) (l : List Mat), v = .slice A l.length c ∧ l.length ≤ c ∧ l.length ≤ 4398046511104 ∧ Mats W W.heap.size A l ∧ ∀ x ∈ l, FitM x := by
  obtain ⟨A, n, c, D, rfl, hD, hn, hm, hby, hc, hd⟩ := h.structs Try.underlying40 Try.underlying42 (by kernel_rfl) (by kernel_rfl) (by decide)
  have hbz : Try.prog.bytesOf 42 = 40 := by kernel_rfl
  rw [hbz] at hby
  rcases Nat.eq_zero_or_pos n with h0 | h0
  · exact ⟨A, c, [], by rw [h0]; rfl, Nat.zero_le _, Nat.zero_le _, Mats.nil_, by simp⟩
  · obtain ⟨b, off, rfl, hb, hi⟩ := hc h0
    rcases hd with hd | ⟨spare, hd⟩
    · omega
    have hw : ∀ i (hi : i < D.length), ∀ (j : Nat) (t : TypeId) (y : DataW H × List MemPlace), [9, 3, 9][j]? = some t → D[i][j]? = some y → ∀ k ∈ y.1.weights Try.prog t, k ≤ reachBytes := by
      intro i hi j t y ht hy k hk
      refine h.sized k ?_
      subst hd
      have h1 : DataW.agg (D[i].map (·.1)) ∈ D.map fun ys => DataW.agg (ys.map (·.1)) := List.mem_map.2 ⟨D[i], List.getElem_mem hi, rfl⟩
      have h2 : k ∈ DataW.weights Try.prog 42 (.agg (D[i].map (·.1))) := by
        simp only [DataW.weights, Try.underlying42]
        exact DataW.weights_mem_each (j := j) (by simpa using ht) (by rw [List.getElem?_map, hy]; rfl) k hk
      have h3 := weights_all _ _ h1 k h2
      simp only [DataW.weights, Try.underlying40]
      simp only [List.mem_append, List.mem_cons]
      simp [h3]
    obtain ⟨l, hl, hp⟩ := choose_list (p := fun i (x : Mat) => W.cell? ⟨b, off + i * 3, none⟩ = some (.string x.1) ∧ W.cell? ⟨b, off + i * 3 + 1, none⟩ = some (.int .i64 x.2.1) ∧ W.cell? ⟨b, off + i * 3 + 2, none⟩ = some (.string x.2.2) ∧ FitM x) n (fun i hin => by
      obtain ⟨hlen, m, hf⟩ := hi i (by omega)
      obtain ⟨u0, y0, c0, e0, t0⟩ := hf 0 _ rfl
      obtain ⟨u1, y1, c1, e1, t1⟩ := hf 1 _ rfl
      obtain ⟨u2, y2, c2, e2, t2⟩ := hf 2 _ rfl
      obtain ⟨x0, rfl, s0⟩ := str_of Try.underlying9 t0 (hw i (by omega) 0 _ _ rfl e0)
      obtain ⟨x1, r1, _, _⟩ := DataW.trod_int Try.underlying3 t1
      simp only [List.cons.injEq, and_true] at r1
      subst r1
      obtain ⟨x2, rfl, s2⟩ := str_of Try.underlying9 t2 (hw i (by omega) 2 _ _ rfl e2)
      exact ⟨(x0, x1, x2), c0, c1, c2, s0, s2⟩)
    refine ⟨some ⟨b, off, none⟩, c, l, by rw [hl], by omega, by omega, ⟨matCells_len l, fun _ => ⟨b, off, rfl, hb, fun j u hu => ?_⟩⟩, fun x hx => ?_⟩
    · have hj : j < l.length * 3 := by rw [← matCells_len]; exact (List.getElem?_eq_some_iff.1 hu).1
      have hji : j / 3 < l.length := by omega
      obtain ⟨g0, g1, g2⟩ := matCells_get l (j / 3) hji
      obtain ⟨q0, q1, q2, _⟩ := hp (j / 3) hji
      have h3 : j % 3 = 0 ∨ j % 3 = 1 ∨ j % 3 = 2 := by omega
      rcases h3 with hz | hz | hz
      · have e : j = j / 3 * 3 := by omega
        rw [← e] at g0 q0
        rw [hu] at g0
        injection g0 with g0
        rw [g0]; exact q0
      · have e : j = j / 3 * 3 + 1 := by omega
        rw [← e] at g1
        rw [Nat.add_assoc, ← e] at q1
        rw [hu] at g1
        injection g1 with g1
        rw [g1]; exact q1
      · have e : j = j / 3 * 3 + 2 := by omega
        rw [← e] at g2
        rw [Nat.add_assoc, ← e] at q2
        rw [hu] at g2
        injection g2 with g2
        rw [g2]; exact q2
    · obtain ⟨i, hi', rfl⟩ := List.getElem_of_mem hx
      exact (hp i hi').2.2.2

/-! ### Asks -/
def asksP (m : Mat) : Prop := nameB m.1 = true ∧ 1 ≤ m.2.1 ∧ m.2.1 ≤ 4 ∧ m.2.2.size ≤ 16 ∧ (m.2.1 ≠ 4 ∨ m.2.2.size = 0)
instance (m : Mat) : Decidable (asksP m) := by unfold asksP; infer_instance
def asksB (m : Mat) : Bool := decide (asksP m)
theorem empty_eq (v : ByteArray) : (v.toList == (⟨#[]⟩ : ByteArray).toList) = decide (v.size = 0) := by
  rw [bytes_eqd]
  by_cases h : v.size = 0
  · rw [dct h]
    refine dct (ByteArray.ext (Array.toList_inj.1 ?_))
    have : v.data.toList.length = 0 := by rw [Array.length_toList]; exact h
    exact List.eq_nil_of_length_eq_zero this
  · rw [dcf h]
    exact dcf fun e => h (by rw [e]; rfl)
theorem empty_is (v : ByteArray) : v.toList.isEmpty = decide (v.size = 0) := by
  have h := empty_eq v
  simpa using h
/-- The ways that a matcher is none or is one. -/
theorem asks_cases (m : Mat) :
    (asksB m = false ∧ (nameB m.1 = false ∨ (nameB m.1 = true ∧ m.2.1 < 1) ∨ (nameB m.1 = true ∧ 4 < m.2.1) ∨ (nameB m.1 = true ∧ 1 ≤ m.2.1 ∧ m.2.1 ≤ 4 ∧ 16 < m.2.2.size) ∨ (nameB m.1 = true ∧ m.2.1 = 4 ∧ m.2.2.size ≤ 16 ∧ m.2.2.size ≠ 0))) ∨
    (asksB m = true ∧ nameB m.1 = true ∧ m.2.2.size ≤ 16 ∧ (m.2.1 = 1 ∨ m.2.1 = 2 ∨ m.2.1 = 3 ∨ (m.2.1 = 4 ∧ m.2.2.size = 0))) := by
  unfold asksB
  by_cases h : asksP m
  · rw [dct h]
    obtain ⟨h1, h2, h3, h4, h5⟩ := h
    exact .inr ⟨rfl, h1, h4, by omega⟩
  · rw [dcf h]
    refine .inl ⟨rfl, ?_⟩
    cases hn : nameB m.1
    · exact .inl rfl
    · have : ¬ (1 ≤ m.2.1 ∧ m.2.1 ≤ 4 ∧ m.2.2.size ≤ 16 ∧ (m.2.1 ≠ 4 ∨ m.2.2.size = 0)) := fun h' => h ⟨hn, h'⟩
      simp only [true_and, Bool.true_eq_false, false_or]
      omega

set_option maxRecDepth 100000 in
set_option maxHeartbeats 1600000 in
theorem asks_calls (w : World) (n : ByteArray) (way : Int) (v : ByteArray) (hf : FitM (n, way, v)) :
    Calls Try.prog 21 #[.agg #[.string n, .int .i64 way, .string v]] w fun e w' => e = .returned (.bool (asksB (n, way, v))) ∧ Below w.heap.size w w' := by
  have hN := fun W => name_calls n W hf.1
  have hc := asks_cases (n, way, v)
  have f2 := hf.2
  simp only at hc f2
  clear hf
  rcases hc with ⟨ha, h⟩ | ⟨ha, h0, h5, h⟩
  · have HA := Lib.hid ha
    clear ha
    rcases h with h0 | ⟨h0, h1⟩ | ⟨h0, h2⟩ | ⟨h0, h1, h2, h3⟩ | ⟨h0, h4, h5, h6⟩
    all_goals
      rw [h0] at hN
      have HN := Lib.hid hN
      clear hN h0
      try subst h4
      try (have d1 := dct h1)
      try (have d1 : decide ((1 : Int) ≤ way) = false := dcf (by omega))
      try (have d1 : decide ((1 : Int) ≤ way) = true := dct (by omega))
      try (have d2 : decide (way ≤ 4) = true := dct (by omega))
      try (have d2 : decide (way ≤ 4) = false := dcf (by omega))
      try (have d3 : decide ((v.size : Int) ≤ 16) = true := dct (by omega))
      try (have d3 : decide ((v.size : Int) ≤ 16) = false := dcf (by omega))
      have q : v.toList.isEmpty = decide (v.size = 0) := empty_is v
      try rw [dcf h6] at q
      go_enter Try.func21, Try.ntmps21
      go_wp2_with fail
      refine (HN.out _).mono ?_
      rintro e w1 ⟨rfl, rfl⟩
      go_wp2
      all_goals
        go_ret
        exact ⟨by rw [HA.out]; rfl, (Below.refl _ _).alloc (Nat.le_refl _) _⟩
  · have HA := Lib.hid ha
    clear ha
    rw [h0] at hN
    have HN := Lib.hid hN
    clear hN h0
    have d3 : decide ((v.size : Int) ≤ 16) = true := dct (by omega)
    have q : v.toList.isEmpty = decide (v.size = 0) := empty_is v
    rcases h with h | h | h | ⟨h, h6⟩
    all_goals
      subst h
      try rw [dct h6] at q
      go_enter Try.func21, Try.ntmps21
      go_wp2_with fail
      refine (HN.out _).mono ?_
      rintro e w1 ⟨rfl, rfl⟩
      go_wp2
      all_goals
        go_ret
        exact ⟨by rw [HA.out]; rfl, (Below.refl _ _).alloc (Nat.le_refl _) _⟩
set_option maxRecDepth 100000 in
set_option maxHeartbeats 1600000 in
theorem asksR_calls (w : World) (n : ByteArray) (way : Int) (v : ByteArray) (hf : FitM (n, way, v)) :
    Calls Try.prog 22 #[.agg #[.string n, .int .i64 way, .string v]] w fun e w' => e = .returned (.bool (asksB (n, way, v))) ∧ Below w.heap.size w w' := by
  have hN := fun W => nameR_calls n W hf.1
  have hc := asks_cases (n, way, v)
  have f2 := hf.2
  simp only at hc f2
  clear hf
  rcases hc with ⟨ha, h⟩ | ⟨ha, h0, h5, h⟩
  · have HA := Lib.hid ha
    clear ha
    rcases h with h0 | ⟨h0, h1⟩ | ⟨h0, h2⟩ | ⟨h0, h1, h2, h3⟩ | ⟨h0, h4, h5, h6⟩
    all_goals
      try (have e1 := eqf (show way ≠ 1 by omega))
      try (have e2 := eqf (show way ≠ 2 by omega))
      try (have e3 := eqf (show way ≠ 3 by omega))
      try (have e4 := eqf (show way ≠ 4 by omega))
      rw [h0] at hN
      have HN := Lib.hid hN
      clear hN h0
      try subst h4
      try (have d1 := dct h1)
      try (have d1 : decide ((1 : Int) ≤ way) = false := dcf (by omega))
      try (have d1 : decide ((1 : Int) ≤ way) = true := dct (by omega))
      try (have d2 : decide (way ≤ 4) = true := dct (by omega))
      try (have d2 : decide (way ≤ 4) = false := dcf (by omega))
      try (have d3 : decide ((v.size : Int) ≤ 16) = true := dct (by omega))
      try (have d3 : decide ((v.size : Int) ≤ 16) = false := dcf (by omega))
      have q : v.toList.isEmpty = decide (v.size = 0) := empty_is v
      try rw [dcf h6] at q
      go_enter Try.func22, Try.ntmps22
      go_wp2_with fail
      refine (HN.out _).mono ?_
      rintro e w1 ⟨rfl, rfl⟩
      go_wp2
      all_goals
        go_ret
        exact ⟨by rw [HA.out]; rfl, (Below.refl _ _).alloc (Nat.le_refl _) _⟩
  · have HA := Lib.hid ha
    clear ha
    rw [h0] at hN
    have HN := Lib.hid hN
    clear hN h0
    have d3 : decide ((v.size : Int) ≤ 16) = true := dct (by omega)
    have q : v.toList.isEmpty = decide (v.size = 0) := empty_is v
    rcases h with h | h | h | ⟨h, h6⟩
    all_goals
      subst h
      try rw [dct h6] at q
      go_enter Try.func22, Try.ntmps22
      go_wp2_with fail
      refine (HN.out _).mono ?_
      rintro e w1 ⟨rfl, rfl⟩
      go_wp2
      all_goals
        go_ret
        exact ⟨by rw [HA.out]; rfl, (Below.refl _ _).alloc (Nat.le_refl _) _⟩
end Go.Proofs.Ytbnlfljlomhngaa
