/- Records: every record of a batch may be one: the closure, slices.IndexFunc, slices.ContainsFunc, every (chapter 9). Records: weights; Check of both (chapter 9). Records: Check of both (chapter 9). -/
import Derived.Test.YtennddlihcamnaaProg
import Derived.Test.YtennddlihcamnaaRecB
import Derived.Shelf.SlicesQ.IndexFunc

namespace Go.Proofs.Ytennddlihcamnaa
set_option linter.unusedVariables false
set_option linter.unusedSimpArgs false
open Go.RowKit

def allP (l : List Rec) : Prop := ∀ i, i < l.length → recB (recAt l i) = true
instance (l : List Rec) : Decidable (allP l) := by unfold allP; infer_instance
def allR (l : List Rec) : Bool := decide (allP l)

theorem clos_calls (w : World) {B g : Nat} (r : Rec) (h : r.ok w B) (hB : B ≤ w.heap.size) (hg : g < w.heap.size) (hc : w.cell? ⟨g, 0, none⟩ = some (.func (.func 10) #[] #[])) :
    Calls Try.prog 51 #[r.agg, .pointer (some ⟨g, 0, none⟩)] w fun e w' => e = .returned (.bool (!recB r)) ∧ Below w.heap.size w w' := by
  have hr := recRight_calls (w.alloc (.cells #[.int .i64 r.kind, .int .i64 r.time, .slice r.A r.labs.length r.c, .string r.text, .int .i64 r.value, .bool r.null] 28)) r (h.below ((Below.refl B w).alloc hB _)) (by simp; omega)
  have HR := Lib.hid hr
  have hc2 : (w.alloc (.cells #[.int .i64 r.kind, .int .i64 r.time, .slice r.A r.labs.length r.c, .string r.text, .int .i64 r.value, .bool r.null] 28)).cell? ⟨g, 0, none⟩ = some (.func (.func 10) #[] #[]) := (World.cell?_alloc_lt w _ _ hg).trans hc
  clear hr h
  unfold Rec.agg at *
  obtain ⟨kind, time, A, c, labs, text, value, null⟩ := r
  simp only at HR hc2 ⊢
  generalize recB ⟨kind, time, A, c, labs, text, value, null⟩ = rb at *
  have eg : ∀ args w, (callFunc 10 args).run Try.prog w = .ok (.enter 10 args) w := enters_of Try.func10 (by kernel_rfl) rfl
  go_enter Try.func51, Try.ntmps51
  go_wp2_with (go_at_fn 10; refine HR.out.mono ?_; rintro e w1 ⟨rfl, hb1⟩)
  go_ret
  exact ⟨rfl, ((Below.refl _ _).alloc (Nat.le_refl _) _).trans (hb1.mono (by simp))⟩

set_option maxRecDepth 100000 in
set_option maxHeartbeats 800000 in
theorem index_calls (w : World) {B g c : Nat} {A : Option Addr} {l : List Rec} (h : Recs w B A l) (hB : B ≤ w.heap.size) (hg : g < w.heap.size) (hn : l.length ≤ 1954687338211) (hc : w.cell? ⟨g, 0, none⟩ = some (.func (.func 10) #[] #[])) :
    Calls Try.prog 67 #[.slice A l.length c, .func (.func 51) #[] #[.pointer (some ⟨g, 0, none⟩)]] w
      fun e w' => (∃ z : Int, e = .returned (.int .i64 z) ∧ decide (0 ≤ z) = !allR l) ∧ Below w.heap.size w w' := by
  have eg : ∀ args w, (callFunc 51 args).run Try.prog w = .ok (.enter 51 args) w := enters_of Try.func51 (by kernel_rfl) rfl
  go_enter Try.func67, Try.ntmps67
  go_wp2
  go_loopw [8] (fun i wr => ∃ k : Nat, k ≤ l.length ∧ i = .int .i64 (k : Int) ∧ Hid (∀ i, i < k → recB (recAt l i) = true) ∧ Below w.heap.size w wr) (fun i _ => l.length - (intOf i).toNat)
  case atStart => exact ⟨0, Nat.zero_le _, rfl, Lib.hid fun i hi => absurd hi (by omega), Below.refl _ _⟩
  case round =>
    obtain ⟨k, hk, rfl, hall, hbel⟩ := hrel
    by_cases hlt : k < l.length
    · have hsz := hbel.size
      have hr := h.below (hbel.mono hB)
      have hok := hr.each k hlt
      obtain ⟨b, off, rfl, hbB, hcell⟩ := hr.cellAt (show 0 < l.length by omega)
      obtain ⟨c0, c1, c2, c3, c4, c5⟩ := hcell k hlt
      have hcg : wr.cell? ⟨g, 0, none⟩ = some (.func (.func 10) #[] #[]) := (hbel.cell (p := ⟨g, 0, none⟩) hg).trans hc
      have hcl := clos_calls wr (recAt l k) hok (by omega) (by omega) hcg
      have Hno : Hid (recB (recAt l k) = false → allR l = false) := Lib.hid fun h => dcf fun h' => by have := h' k hlt; rw [h] at this; cases this
      have Hst : Hid (recB (recAt l k) = true → ∀ i, i < k + 1 → recB (recAt l i) = true) := Lib.hid fun h i hi => by
        rcases Nat.lt_or_ge i k with h1 | h1
        · exact hall.out i h1
        · obtain rfl : i = k := by omega
          exact h
      clear hcell hr hok hcg
      unfold Rec.agg at hcl
      generalize recAt l k = r at *
      cases hrb : recB r
      · have HN := Lib.hid (Hno.out hrb)
        rw [hrb] at hcl
        have HC := Lib.hid hcl
        clear hcl hrb Hst Hno
        go_wp2_with (go_at_fn 51; refine HC.out.mono ?_; rintro e w1 ⟨rfl, hb1⟩)
        go_ret
        exact ⟨⟨_, rfl, by rw [HN.out]; exact dct (by omega)⟩, hbel.trans (hb1.mono hsz)⟩
      · have HS := Lib.hid (Hst.out hrb)
        rw [hrb] at hcl
        have HC := Lib.hid hcl
        clear hcl hrb Hst Hno
        go_wp2_with (go_at_fn 51; refine HC.out.mono ?_; rintro e w1 ⟨rfl, hb1⟩)
        go_roundw
        case rel => exact ⟨k + 1, by omega, by go_num, HS, hbel.trans (hb1.mono hsz)⟩
        case measure => simp [intOf]; omega
    · obtain rfl : k = l.length := by omega
      have HA : Hid (allR l = true) := Lib.hid (dct hall.out)
      go_wp2
      go_ret
      exact ⟨⟨-1, rfl, by rw [HA.out]; rfl⟩, hbel⟩

theorem every_calls (w : World) {B c : Nat} {A : Option Addr} {l : List Rec} (h : Recs w B A l) (hB : B ≤ w.heap.size) (hn : l.length ≤ 1954687338211) :
    Calls Try.prog 32 #[.slice A l.length c, .func (.func 10) #[] #[]] w fun e w' => e = .returned (.bool (allR l)) ∧ Below w.heap.size w w' := by
  have hi := index_calls (w.alloc (.cells #[.func (.func 10) #[] #[]] 29)) (c := c) (g := w.heap.size) (h.below ((Below.refl B w).alloc hB _)) (by simp; omega) (by simp) hn (by simp)
  have HI := Lib.hid hi
  have hcon : Hid (Calls Try.prog 50 #[.slice A l.length c, .func (.func 51) #[] #[.pointer (some ⟨w.heap.size, 0, none⟩)]] (w.alloc (.cells #[.func (.func 10) #[] #[]] 29))
      fun e w' => e = .returned (.bool (!allR l)) ∧ Below (w.heap.size + 1) (w.alloc (.cells #[.func (.func 10) #[] #[]] 29)) w') := Lib.hid (by
    clear hi h
    go_enter Try.func50, Try.ntmps50
    go_wp2_with fail
    refine HI.out.mono ?_
    rintro e w1 ⟨⟨z, rfl, hz⟩, hb1⟩
    go_wp2
    go_ret
    exact ⟨by rw [← hz]; rfl, hb1.mono (by simp)⟩)
  clear hi h HI
  generalize allR l = a at *
  go_enter Try.func32, Try.ntmps32
  go_wp2_with fail
  refine hcon.out.mono ?_
  rintro e w1 ⟨rfl, hb1⟩
  go_wp2
  go_ret
  exact ⟨by simp, ((Below.refl _ _).alloc (Nat.le_refl _) _).trans (hb1.mono (by simp))⟩
end Go.Proofs.Ytennddlihcamnaa

namespace Go.Proofs.Ytennddlihcamnaa
set_option linter.unusedVariables false
set_option linter.unusedSimpArgs false
open Go.RowKit

/-- What the first k labels weigh. -/
def wK (l : List Lab) : Nat → Nat
  | 0 => 0
  | k + 1 => wK l k + ((labAt l k).1.size + (labAt l k).2.size)
def weightB (r : Rec) : Nat := 16 + r.text.size + wK r.labs r.labs.length
theorem right_small {l : List Lab} (h : rightB l = true) {k : Nat} (hk : k < l.length) : (labAt l k).1.size + (labAt l k).2.size ≤ 24 := by
  have hp : rightP l := of_decide_eq_true h
  obtain ⟨h1, h2, _⟩ := hp.2 k hk
  have h3 : nameP (labAt l k).1 := of_decide_eq_true h1
  have := h3.2.1
  omega
theorem wK_le {l : List Lab} (h : rightB l = true) : ∀ k, k ≤ l.length → wK l k ≤ 24 * k
  | 0, _ => Nat.le_refl _
  | k + 1, hk => by
    have := wK_le h k (by omega)
    have := right_small h (k := k) (by omega)
    simp only [wK]
    omega
theorem rec_right {r : Rec} (h : recB r = true) : rightB r.labs = true ∧ r.text.size ≤ 200 ∧ r.labs.length ≤ 4 := by
  have hp : recP r := of_decide_eq_true h
  have hr : rightP r.labs := of_decide_eq_true hp.2.2.1
  exact ⟨hp.2.2.1, by rcases hp.2.2.2 with h | h <;> omega, hr.1⟩
theorem weight_le {r : Rec} (h : recB r = true) : weightB r ≤ 312 := by
  obtain ⟨h1, h2, h3⟩ := rec_right h
  have := wK_le h1 r.labs.length (Nat.le_refl _)
  unfold weightB
  omega

set_option maxRecDepth 100000 in
set_option maxHeartbeats 800000 in
theorem weight_calls (w : World) {B : Nat} (r : Rec) (h : r.ok w B) (hB : B ≤ w.heap.size) (hr : recB r = true) :
    Calls Try.prog 33 #[r.agg] w fun e w' => e = .returned (.int .i64 (weightB r : Int)) ∧ Below w.heap.size w w' := by
  obtain ⟨hr1, hr2, hr3⟩ := rec_right hr
  have HL := Lib.hid fun k hk => wK_le hr1 k hk
  have HS := Lib.hid fun k hk => right_small hr1 (k := k) hk
  have HW : Hid (weightB r = 16 + r.text.size + wK r.labs r.labs.length) := Lib.hid rfl
  have hlb := h.labs
  clear hr1 hr h
  unfold Rec.agg
  generalize weightB r = wt at *
  obtain ⟨kind, time, A, c, labs, text, value, null⟩ := r
  simp only at HL HS HW hlb hr2 hr3 ⊢
  go_enter Try.func33, Try.ntmps33
  go_wp2
  go_loopw [3, 13] (fun v i wr => ∃ k n : Nat, k ≤ labs.length ∧ i = .int .i64 (k : Int) ∧ v = .int .i64 (n : Int) ∧ n ≤ 216 + 24 * k ∧ Hid (n = 16 + text.size + wK labs k) ∧ Below (w.heap.size) w wr) (fun _ i _ => labs.length - (intOf i).toNat)
  case atStart => exact ⟨0, 16 + text.size, Nat.zero_le _, rfl, by go_num, by omega, Lib.hid rfl, (Below.refl _ _).alloc (Nat.le_refl _) _⟩
  case round =>
    obtain ⟨k, n, hk, rfl, rfl, hn, Hn, hbel⟩ := hrel
    by_cases hlt : k < labs.length
    · have hsz := hbel.size
      obtain ⟨b, off, rfl, hbB, hcell⟩ := (hlb.below (hbel.mono hB)).cellAt (show 0 < labs.length by omega)
      obtain ⟨c0, c1⟩ := hcell k hlt
      have hsm := HS.out k hlt
      have Hstep : Hid (n + ((labAt labs k).1.size + (labAt labs k).2.size) = 16 + text.size + wK labs (k + 1)) := Lib.hid (by rw [Hn.out]; simp only [wK]; omega)
      clear hcell
      generalize labAt labs k = x at *
      go_wp2
      go_roundw
      case rel => exact ⟨k + 1, n + (x.1.size + x.2.size), by omega, by go_num, by go_num, by omega, Hstep, hbel.alloc hsz _⟩
      case measure => simp [intOf]; omega
    · obtain rfl : k = labs.length := by omega
      have HF : Hid (n = wt) := Lib.hid (by rw [Hn.out, HW.out])
      go_wp2
      go_ret
      exact ⟨by rw [← HF.out]; rfl, hbel⟩
set_option maxRecDepth 100000 in
set_option maxHeartbeats 800000 in
theorem weightR_calls (w : World) {B : Nat} (r : Rec) (h : r.ok w B) (hB : B ≤ w.heap.size) (hr : recB r = true) :
    Calls Try.prog 34 #[r.agg] w fun e w' => e = .returned (.int .i64 (weightB r : Int)) ∧ Below w.heap.size w w' := by
  obtain ⟨hr1, hr2, hr3⟩ := rec_right hr
  have HL := Lib.hid fun k hk => wK_le hr1 k hk
  have HS := Lib.hid fun k hk => right_small hr1 (k := k) hk
  have HW : Hid (weightB r = 16 + r.text.size + wK r.labs r.labs.length) := Lib.hid rfl
  have hlb := h.labs
  clear hr1 hr h
  unfold Rec.agg
  generalize weightB r = wt at *
  obtain ⟨kind, time, A, c, labs, text, value, null⟩ := r
  simp only at HL HS HW hlb hr2 hr3 ⊢
  go_enter Try.func34, Try.ntmps34
  go_wp2
  go_loopw [3, 13] (fun v i wr => ∃ k n : Nat, k ≤ labs.length ∧ i = .int .i64 (k : Int) ∧ v = .int .i64 (n : Int) ∧ n ≤ 216 + 24 * k ∧ Hid (n = 16 + text.size + wK labs k) ∧ Below (w.heap.size) w wr) (fun _ i _ => labs.length - (intOf i).toNat)
  case atStart => exact ⟨0, 16 + text.size, Nat.zero_le _, rfl, by go_num, by omega, Lib.hid rfl, (Below.refl _ _).alloc (Nat.le_refl _) _⟩
  case round =>
    obtain ⟨k, n, hk, rfl, rfl, hn, Hn, hbel⟩ := hrel
    by_cases hlt : k < labs.length
    · have hsz := hbel.size
      obtain ⟨b, off, rfl, hbB, hcell⟩ := (hlb.below (hbel.mono hB)).cellAt (show 0 < labs.length by omega)
      obtain ⟨c0, c1⟩ := hcell k hlt
      have hsm := HS.out k hlt
      have Hstep : Hid (n + ((labAt labs k).1.size + (labAt labs k).2.size) = 16 + text.size + wK labs (k + 1)) := Lib.hid (by rw [Hn.out]; simp only [wK]; omega)
      clear hcell
      generalize labAt labs k = x at *
      go_wp2
      go_roundw
      case rel => exact ⟨k + 1, n + (x.1.size + x.2.size), by omega, by go_num, by go_num, by omega, Hstep, hbel.alloc hsz _⟩
      case measure => simp [intOf]; omega
    · obtain rfl : k = labs.length := by omega
      have HF : Hid (n = wt) := Lib.hid (by rw [Hn.out, HW.out])
      go_wp2
      go_ret
      exact ⟨by rw [← HF.out]; rfl, hbel⟩
end Go.Proofs.Ytennddlihcamnaa

namespace Go.Proofs.Ytennddlihcamnaa
set_option linter.unusedVariables false
set_option linter.unusedSimpArgs false
open Go.RowKit

/-- What the first k records weigh. -/
def tK (l : List Rec) : Nat → Nat
  | 0 => 0
  | k + 1 => tK l k + weightB (recAt l k)
def chkB (maker seq : Int) (l : List Rec) : Nat :=
  if 64 < l.length then 14
  else if maker < 1 ∨ 64 < maker ∨ seq < 1 ∨ 1099511627776 ≤ seq ∨ l.length = 0 ∨ allR l = false then 4
  else if 4096 < tK l l.length then 14 else 0
theorem chk_cases (maker seq : Int) (l : List Rec) : (64 < l.length ∧ chkB maker seq l = 14) ∨
    (l.length ≤ 64 ∧ chkB maker seq l = 4 ∧ (maker < 1 ∨ (1 ≤ maker ∧ 64 < maker) ∨ (1 ≤ maker ∧ maker ≤ 64 ∧ seq < 1) ∨ (1 ≤ maker ∧ maker ≤ 64 ∧ 1 ≤ seq ∧ 1099511627776 ≤ seq) ∨ (1 ≤ maker ∧ maker ≤ 64 ∧ 1 ≤ seq ∧ seq < 1099511627776 ∧ l.length = 0))) ∨
    (l.length ≤ 64 ∧ 1 ≤ maker ∧ maker ≤ 64 ∧ 1 ≤ seq ∧ seq < 1099511627776 ∧ 0 < l.length ∧ ((allR l = false ∧ chkB maker seq l = 4) ∨ (allR l = true ∧ ((4096 < tK l l.length ∧ chkB maker seq l = 14) ∨ (tK l l.length ≤ 4096 ∧ chkB maker seq l = 0))))) := by
  unfold chkB
  cases allR l <;> simp only [Bool.true_eq_false, true_and, false_and, or_true, or_false, false_or, and_true, if_true]
  all_goals
    by_cases h1 : 64 < l.length
    · simp [h1]
    · rw [if_neg h1]
      first
        | (by_cases h2 : (maker < 1 ∨ 64 < maker ∨ seq < 1 ∨ 1099511627776 ≤ seq ∨ l.length = 0)
           · rw [if_pos h2]; omega
           · rw [if_neg h2]
             by_cases h3 : 4096 < tK l l.length
             · rw [if_pos h3]; omega
             · rw [if_neg h3]; omega)
        | omega

set_option maxRecDepth 100000 in
set_option maxHeartbeats 3200000 in
theorem check_calls (w : World) {B c : Nat} {A : Option Addr} {l : List Rec} (maker seq : Int) (h : Recs w B A l) (hB : B ≤ w.heap.size) (hn : l.length ≤ 1954687338211) :
    Calls Try.prog 12 #[.agg #[.int .i64 maker, .int .i64 seq, .slice A l.length c]] w fun e w' => e = .returned (.int .i64 (chkB maker seq l : Int)) ∧ Below w.heap.size w w' := by
  have hc := chk_cases maker seq l
  have HT : Hid (allR l = true → ∀ k, k ≤ l.length → tK l k ≤ 312 * k) := Lib.hid fun ha => by
    have hp : allP l := of_decide_eq_true ha
    intro k
    induction k with
    | zero => intro _; exact Nat.le_refl _
    | succ k ih =>
      intro hk
      have h1 := ih (by omega)
      have h2 := weight_le (hp k (by omega))
      simp only [tK]
      omega
  have HA : Hid (∀ i, i < l.length → allR l = true → recB (recAt l i) = true) := Lib.hid fun i hi ha => (of_decide_eq_true ha : allP l) i hi
  rcases hc with ⟨h0, hv⟩ | ⟨h0, hv, hc⟩ | ⟨h0, h1, h2, h3, h4, h5, hc⟩
  · have HV := Lib.hid hv
    clear hv
    go_enter Try.func12, Try.ntmps12
    go_wp2
    go_ret
    exact ⟨by rw [HV.out]; rfl, (Below.refl _ _).alloc (Nat.le_refl _) _⟩
  · have HV := Lib.hid hv
    clear hv
    rcases hc with h1 | ⟨h1, h2⟩ | ⟨h1, h2, h3⟩ | ⟨h1, h2, h3, h4⟩ | ⟨h1, h2, h3, h4, h5⟩
    all_goals
      try (have d1 : decide (maker < 1) = false := dcf (by omega))
      try (have d1 : decide (maker < 1) = true := dct (by omega))
      try (have d2 : decide ((64 : Int) < maker) = false := dcf (by omega))
      try (have d2 : decide ((64 : Int) < maker) = true := dct (by omega))
      try (have d3 : decide (seq < 1) = false := dcf (by omega))
      try (have d3 : decide (seq < 1) = true := dct (by omega))
      try (have d4 : decide ((1099511627776 : Int) ≤ seq) = false := dcf (by omega))
      try (have d4 : decide ((1099511627776 : Int) ≤ seq) = true := dct (by omega))
      try (have d6 : decide ((1099511627775 : Int) < seq) = false := dcf (by omega))
      try (have d6 : decide ((1099511627775 : Int) < seq) = true := dct (by omega))
      try (have d5 : ((l.length : Int) == 0) = true := eqt (by omega))
      go_enter Try.func12, Try.ntmps12
      go_wp2
      go_ret
      exact ⟨by rw [HV.out]; rfl, (Below.refl _ _).alloc (Nat.le_refl _) _⟩
  have d1 : decide (maker < 1) = false := dcf (by omega)
  have d2 : decide ((64 : Int) < maker) = false := dcf (by omega)
  have d3 : decide (seq < 1) = false := dcf (by omega)
  have d4 : decide ((1099511627776 : Int) ≤ seq) = false := dcf (by omega)
  have d6 : decide ((1099511627775 : Int) < seq) = false := dcf (by omega)
  have d5 : ((l.length : Int) == 0) = false := eqf (by omega)
  have hba := (Below.refl w.heap.size w).alloc (Nat.le_refl _) (.cells #[.int .i64 maker, .int .i64 seq, .slice A l.length c] 24)
  have hl1 := h.below (hba.mono hB)
  have hev := every_calls (w.alloc (.cells #[.int .i64 maker, .int .i64 seq, .slice A l.length c] 24)) (c := c) hl1 (by simp; omega) hn
  rcases hc with ⟨ha, hv⟩ | ⟨ha, hc⟩
  · rw [ha] at hev
    have HE := Lib.hid hev
    have HV := Lib.hid hv
    clear hev hv ha
    go_enter Try.func12, Try.ntmps12
    go_wp2_with fail
    refine HE.out.mono ?_
    rintro e w1 ⟨rfl, hb1⟩
    go_wp2
    go_ret
    exact ⟨by rw [HV.out]; rfl, hba.trans (hb1.mono (by simp))⟩
  · rw [ha] at hev
    have HE := Lib.hid hev
    have HC := Lib.hid hc
    have HTT := Lib.hid (HT.out ha)
    have HAA := Lib.hid fun i hi => HA.out i hi ha
    clear hev hc ha HT HA
    go_enter Try.func12, Try.ntmps12
    go_wp2_with fail
    refine HE.out.mono ?_
    rintro e w1 ⟨rfl, hb1⟩
    have hbx := (Blk.new w 24 #[.int .i64 maker, .int .i64 seq, .slice A l.length c]).below hb1 (by simp)
    have y2 := hbx.cell 2
    simp only [List.getElem?_toArray, List.getElem?_cons_zero, List.getElem?_cons_succ] at y2
    have hb01 := hba.trans (hb1.mono (by simp))
    have hl2 := hl1.below (hb1.mono (by simp; omega))
    have s1 := hb01.size
    clear HE hl1 h
    go_wp2
    go_loopw [3, 43] (fun v i wr => ∃ k n : Nat, k ≤ l.length ∧ i = .int .i64 (k : Int) ∧ v = .int .i64 (n : Int) ∧ n ≤ 312 * k ∧ Hid (n = tK l k) ∧ Below w1.heap.size w1 wr) (fun _ i _ => l.length - (intOf i).toNat)
    case atStart => exact ⟨0, 0, Nat.zero_le _, rfl, rfl, Nat.le_refl _, Lib.hid rfl, Below.refl _ _⟩
    case round =>
      obtain ⟨k, n, hk, rfl, rfl, hnk, Hn, hbel⟩ := hrel
      by_cases hlt : k < l.length
      · have hsz := hbel.size
        have hr := hl2.below (hbel.mono (by omega))
        have hok := hr.each k hlt
        obtain ⟨b, off, rfl, hbB, hcell⟩ := hr.cellAt (show 0 < l.length by omega)
        obtain ⟨c0, c1, c2, c3, c4, c5⟩ := hcell k hlt
        have hrb := HAA.out k hlt
        have hwt := weight_calls (wr.alloc (.cells #[.int .i64 (recAt l k).kind, .int .i64 (recAt l k).time, .slice (recAt l k).A (recAt l k).labs.length (recAt l k).c, .string (recAt l k).text, .int .i64 (recAt l k).value, .bool (recAt l k).null] 28)) (recAt l k) (hok.below ((Below.refl B wr).alloc (by omega) _)) (by simp; omega) hrb
        have hwl := weight_le hrb
        have Hst : Hid (tK l (k + 1) = tK l k + weightB (recAt l k)) := Lib.hid rfl
        unfold Rec.agg at hwt
        clear hcell hr hok hrb
        generalize weightB (recAt l k) = wt at *
        generalize recAt l k = r at *
        have HWt := Lib.hid hwt
        clear hwt
        go_wp2_with fail
        refine HWt.out.mono ?_
        rintro e w3 ⟨rfl, hb3⟩
        go_wp2
        go_roundw
        case rel => exact ⟨k + 1, n + wt, by omega, by go_num, by go_num, by omega, Lib.hid (by rw [Hst.out, Hn.out]), (hbel.alloc hsz _).trans (hb3.mono (by simp; omega))⟩
        case measure => simp [intOf]; omega
      · obtain rfl : k = l.length := by omega
        have hnt := Hn.out
        rcases HC.out with ⟨h6, hv⟩ | ⟨h6, hv⟩
        · have HV := Lib.hid hv
          rw [← hnt] at h6
          clear hv hnt Hn
          go_wp2
          go_ret
          exact ⟨by rw [HV.out]; rfl, hb01.trans (hbel.mono s1)⟩
        · have HV := Lib.hid hv
          rw [← hnt] at h6
          clear hv hnt Hn
          go_wp2
          go_ret
          exact ⟨by rw [HV.out]; rfl, hb01.trans (hbel.mono s1)⟩

set_option maxRecDepth 100000 in
set_option maxHeartbeats 3200000 in
theorem checkR_calls (w : World) {B c : Nat} {A : Option Addr} {l : List Rec} (maker seq : Int) (h : Recs w B A l) (hB : B ≤ w.heap.size) (hn : l.length ≤ 1954687338211) :
    Calls Try.prog 13 #[.agg #[.int .i64 maker, .int .i64 seq, .slice A l.length c]] w fun e w' => e = .returned (.int .i64 (chkB maker seq l : Int)) ∧ Below w.heap.size w w' := by
  have hc := chk_cases maker seq l
  have HT : Hid (allR l = true → ∀ k, k ≤ l.length → tK l k ≤ 312 * k) := Lib.hid fun ha => by
    have hp : allP l := of_decide_eq_true ha
    intro k
    induction k with
    | zero => intro _; exact Nat.le_refl _
    | succ k ih =>
      intro hk
      have h1 := ih (by omega)
      have h2 := weight_le (hp k (by omega))
      simp only [tK]
      omega
  have HA : Hid (∀ i, i < l.length → allR l = true → recB (recAt l i) = true) := Lib.hid fun i hi ha => (of_decide_eq_true ha : allP l) i hi
  rcases hc with ⟨h0, hv⟩ | ⟨h0, hv, hc⟩ | ⟨h0, h1, h2, h3, h4, h5, hc⟩
  · have HV := Lib.hid hv
    clear hv
    go_enter Try.func13, Try.ntmps13
    go_wp2
    go_ret
    exact ⟨by rw [HV.out]; rfl, (Below.refl _ _).alloc (Nat.le_refl _) _⟩
  · have HV := Lib.hid hv
    clear hv
    rcases hc with h1 | ⟨h1, h2⟩ | ⟨h1, h2, h3⟩ | ⟨h1, h2, h3, h4⟩ | ⟨h1, h2, h3, h4, h5⟩
    all_goals
      try (have d1 : decide (maker < 1) = false := dcf (by omega))
      try (have d1 : decide (maker < 1) = true := dct (by omega))
      try (have d2 : decide ((64 : Int) < maker) = false := dcf (by omega))
      try (have d2 : decide ((64 : Int) < maker) = true := dct (by omega))
      try (have d3 : decide (seq < 1) = false := dcf (by omega))
      try (have d3 : decide (seq < 1) = true := dct (by omega))
      try (have d4 : decide ((1099511627776 : Int) ≤ seq) = false := dcf (by omega))
      try (have d4 : decide ((1099511627776 : Int) ≤ seq) = true := dct (by omega))
      try (have d6 : decide ((1099511627775 : Int) < seq) = false := dcf (by omega))
      try (have d6 : decide ((1099511627775 : Int) < seq) = true := dct (by omega))
      try (have d5 : ((l.length : Int) == 0) = true := eqt (by omega))
      go_enter Try.func13, Try.ntmps13
      go_wp2
      go_ret
      exact ⟨by rw [HV.out]; rfl, (Below.refl _ _).alloc (Nat.le_refl _) _⟩
  have d1 : decide (maker < 1) = false := dcf (by omega)
  have d2 : decide ((64 : Int) < maker) = false := dcf (by omega)
  have d3 : decide (seq < 1) = false := dcf (by omega)
  have d4 : decide ((1099511627776 : Int) ≤ seq) = false := dcf (by omega)
  have d6 : decide ((1099511627775 : Int) < seq) = false := dcf (by omega)
  have d5 : ((l.length : Int) == 0) = false := eqf (by omega)
  have hba := (Below.refl w.heap.size w).alloc (Nat.le_refl _) (.cells #[.int .i64 maker, .int .i64 seq, .slice A l.length c] 24)
  have hl1R := h
  have HC := Lib.hid hc
  have hv4 : Hid (allR l = false → chkB maker seq l = 4) := Lib.hid fun ha => by
    rcases hc with ⟨_, hv⟩ | ⟨ha', _⟩
    · exact hv
    · rw [ha] at ha'; cases ha'
  clear hc h HT HA
  go_enter Try.func13, Try.ntmps13
  go_wp2
  go_loopw [3, 37] (fun v i wr => ∃ k n : Nat, k ≤ l.length ∧ i = .int .i64 (k : Int) ∧ v = .int .i64 (n : Int) ∧ n ≤ 312 * k ∧ Hid (n = tK l k ∧ ∀ i, i < k → recB (recAt l i) = true) ∧ Below w.heap.size w wr) (fun _ i _ => l.length - (intOf i).toNat)
  case atStart => exact ⟨0, 0, Nat.zero_le _, rfl, rfl, Nat.le_refl _, Lib.hid ⟨rfl, fun i hi => absurd hi (by omega)⟩, hba⟩
  case round =>
    obtain ⟨k, n, hk, rfl, rfl, hnk, Hn, hbel⟩ := hrel
    by_cases hlt : k < l.length
    · have hsz := hbel.size
      have hr := hl1R.below (hbel.mono hB)
      have hok := hr.each k hlt
      obtain ⟨b, off, rfl, hbB, hcell⟩ := hr.cellAt (show 0 < l.length by omega)
      obtain ⟨c0, c1, c2, c3, c4, c5⟩ := hcell k hlt
      have hri := recRightR_calls (wr.alloc (.cells (recAt l k).vals.toArray 28)) (recAt l k) (hok.below ((Below.refl B wr).alloc (by omega) _)) (by simp; omega)
      have Hst : Hid (tK l (k + 1) = tK l k + weightB (recAt l k)) := Lib.hid rfl
      have Hno : Hid (recB (recAt l k) = false → allR l = false) := Lib.hid fun h => dcf fun h' => by have := h' k hlt; rw [h] at this; cases this
      have Hall : Hid (recB (recAt l k) = true → ∀ i, i < k + 1 → recB (recAt l i) = true) := Lib.hid fun h i hi => by
        rcases Nat.lt_or_ge i k with h1 | h1
        · exact Hn.out.2 i h1
        · obtain rfl : i = k := by omega
          exact h
      unfold Rec.agg at hri
      unfold Rec.vals at hri
      clear hcell hr
      cases hrb : recB (recAt l k)
      · rw [hrb] at hri
        have HV := Lib.hid (hv4.out (Hno.out hrb))
        clear hok Hst Hno Hall hrb
        generalize recAt l k = r at *
        have HRi := Lib.hid hri
        clear hri
        go_wp2_with fail
        refine HRi.out.mono ?_
        rintro e w3 ⟨rfl, hb3⟩
        go_wp2
        go_ret
        exact ⟨by rw [HV.out]; rfl, (hbel.alloc hsz _).trans (hb3.mono (by simp; omega))⟩
      · rw [hrb] at hri
        have hwl := weight_le hrb
        have HW := Lib.hid fun W hbW => weightR_calls W (recAt l k) (hok.below hbW) (Nat.le_trans (by omega) hbW.size) hrb
        have HAl := Lib.hid (Hall.out hrb)
        clear hok Hno Hall hrb
        unfold Rec.agg at HW
        generalize weightB (recAt l k) = wt at *
        generalize recAt l k = r at *
        have HRi := Lib.hid hri
        clear hri
        go_wp2_with fail
        refine HRi.out.mono ?_
        rintro e w3 ⟨rfl, hb3⟩
        have hbx := (Blk.new wr 28 _).below hb3 (by simp)
        have y0 := hbx.cell 0
        have y1 := hbx.cell 1
        have y2 := hbx.cell 2
        have y3 := hbx.cell 3
        have y4 := hbx.cell 4
        have y5 := hbx.cell 5
        simp only [List.getElem?_toArray, List.getElem?_cons_zero, List.getElem?_cons_succ] at y0 y1 y2 y3 y4 y5
        have hbel3 := (hbel.alloc hsz _).trans (hb3.mono (by simp; omega))
        go_wp2_with fail
        refine (HW.out _ (((Below.refl B wr).alloc (by omega) _).trans (hb3.mono (by simp; omega)))).mono ?_
        rintro e w4 ⟨rfl, hb4⟩
        go_wp2
        go_roundw
        case rel => exact ⟨k + 1, n + wt, by omega, by go_num, by go_num, by omega, Lib.hid ⟨by rw [Hst.out, Hn.out.1], HAl.out⟩, hbel3.trans (hb4.mono hbel3.size)⟩
        case measure => simp [intOf]; omega
    · obtain rfl : k = l.length := by omega
      have hnt := Hn.out.1
      have ha : allR l = true := dct Hn.out.2
      rcases HC.out with ⟨ha', hv⟩ | ⟨_, ⟨h6, hv⟩ | ⟨h6, hv⟩⟩
      · rw [ha] at ha'; cases ha'
      · have HV := Lib.hid hv
        rw [← hnt] at h6
        clear hv hnt Hn ha
        go_wp2
        go_ret
        exact ⟨by rw [HV.out]; rfl, hbel⟩
      · have HV := Lib.hid hv
        rw [← hnt] at h6
        clear hv hnt Hn ha
        go_wp2
        go_ret
        exact ⟨by rw [HV.out]; rfl, hbel⟩
end Go.Proofs.Ytennddlihcamnaa
