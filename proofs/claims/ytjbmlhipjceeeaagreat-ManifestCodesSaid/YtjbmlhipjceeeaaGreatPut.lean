/- manifest.put: a list with a thing in the place of that of its number, or there where it belongs (marks, owners). -/
import Derived.Test.YtjbmlhipjceeeaaGreatProg
import Derived.Test.YtjbmlhipjceeeaaGreatMfE
import Derived.Test.YtjbmlhipjceeeaaGreatMfP
import Derived.Test.YtjbmlhipjceeeaaGreatIns
namespace Go.Proofs.YtjbmlhipjceeeaaGreat.Mf
set_option linter.unusedVariables false
set_option linter.unusedSimpArgs false
open Go.RowKit Go.Proofs.YtjbmlhipjceeeaaGreat

def cmpI (a b : Int) : Int := if a < b then -1 else if b < a then 1 else 0
theorem cmpI_neg (a b : Int) : decide (cmpI a b < 0) = decide (a < b) := by
  unfold cmpI
  by_cases h1 : a < b
  · rw [if_pos h1, dct h1]; rfl
  · rw [if_neg h1, dcf h1]; split <;> rfl
theorem cmpI_zero (a b : Int) : (cmpI a b == 0) = decide (a = b) := by
  unfold cmpI
  by_cases h1 : a < b
  · rw [if_pos h1, dcf (by omega)]; rfl
  · rw [if_neg h1]
    by_cases h2 : b < a
    · rw [if_pos h2, dcf (by omega)]; rfl
    · rw [if_neg h2, dct (by omega)]; rfl
theorem nanI (x : Int) (w : World) : Calls Tryz.prog 104 #[.int .i64 x] w fun e w' => e = .returned (.bool false) ∧ w = w' := by
  have hx : (x != x) = false := nef rfl
  go_enter Tryz.func104, Tryz.ntmps104
  go_wp2
  go_ret
  exact ⟨rfl, rfl⟩
set_option maxRecDepth 100000 in
theorem cmpI_calls (x y : Int) (w : World) : Calls Tryz.prog 80 #[.int .i64 x, .int .i64 y] w fun e w' => e = .returned (.int .i64 (cmpI x y)) ∧ w = w' := by
  have hcase : (x < y ∧ cmpI x y = -1) ∨ (¬ x < y ∧ y < x ∧ cmpI x y = 1) ∨ (¬ x < y ∧ ¬ y < x ∧ cmpI x y = 0) := by
    unfold cmpI
    by_cases h1 : x < y
    · exact .inl ⟨h1, by rw [if_pos h1]⟩
    · by_cases h2 : y < x
      · exact .inr (.inl ⟨h1, h2, by rw [if_neg h1, if_pos h2]⟩)
      · exact .inr (.inr ⟨h1, h2, by rw [if_neg h1, if_neg h2]⟩)
  rcases hcase with ⟨h1, h⟩ | ⟨h1, h2, h⟩ | ⟨h1, h2, h⟩
  all_goals
    have HX := Lib.hid h
    clear h
    go_enter Tryz.func80, Tryz.ntmps80
    go_wp2_with fail
    refine (nanI x w).mono ?_
    rintro e w1 ⟨rfl, rfl⟩
    go_wp2_with fail
    refine (nanI y w).mono ?_
    rintro e w1 ⟨rfl, rfl⟩
    go_wp2
    go_ret
    exact ⟨by rw [HX.out]; rfl, rfl⟩

section
variable {α : Type} [Inhabited α]
theorem posL_at {f : α → Int} {n : Int} : ∀ {l : List α} {j : Nat}, j ≤ l.length → (∀ i, i < j → f (gt l i) < n) → (j < l.length → n ≤ f (gt l j)) → posL f n l = j
  | [], j, hj, _, _ => by simp at hj; subst hj; rfl
  | y :: r, 0, _, _, h => by
    unfold posL
    rw [if_neg (by have : n ≤ f y := h (by simp); omega)]
  | y :: r, j + 1, hj, h1, h2 => by
    unfold posL
    rw [if_pos (show f y < n from h1 0 (by omega)), posL_at (l := r) (j := j) (by simpa using hj) (fun i hi => h1 (i + 1) (by omega)) (fun hh => h2 (by simpa using hh))]
theorem srt_gt {f : α → Int} {l : List α} (h : Srt f l) {i j : Nat} (hij : i < j) (hj : j < l.length) : f (gt l i) < f (gt l j) := by
  rw [Srt, List.pairwise_iff_getElem] at h
  have := h i j (by omega) hj hij
  rw [gt_eq, gt_eq] at this
  exact this
/-- A function value that compares a thing's number with k and turns nothing. -/
def Cmps (w0 : World) (g : Nat) (lb : Array Value) (V : α → Value) (f : α → Int) (k : Int) : Prop :=
  (∀ args w, (callFunc g args).run Tryz.prog w = .ok (.enter g args) w) ∧ ∀ x W, Below w0.heap.size w0 W → Calls Tryz.prog g (#[V x, .int .i64 k] ++ lb) W fun e w' => e = .returned (.int .i64 (cmpI (f x) k)) ∧ Below W.heap.size W w'
end
theorem half_in {a b : Nat} (h : a < b) (hb : b ≤ 17592186044416) : a ≤ (a + b) / 2 ∧ (a + b) / 2 < b := by omega

set_option maxRecDepth 100000 in
set_option maxHeartbeats 3200000 in
theorem searchM_calls (w : World) {B c g : Nat} {lb : Array Value} {A : Option Addr} {l : List Mk} {k : Int} (ht : Cmps w g lb mkV Mk.maker k) (h : Reads w B 2 A l.length (l.flatMap Mk.cs)) (hB : B ≤ w.heap.size) (hn : l.length ≤ 17592186044416) (hs : Srt Mk.maker l) :
    Calls Tryz.prog 78 #[.slice A l.length c, .int .i64 k, .func (.func g) #[] lb] w fun e w' => e = .returned (.tuple #[.int .i64 (posL Mk.maker k l : Nat), .bool (thereL Mk.maker k l)]) ∧ Below w.heap.size w w' := by
  have HR := Lib.hid h
  have HT := Lib.hid ht.2
  have HS := Lib.hid hs
  have eg := ht.1
  clear h ht hs
  go_enter Tryz.func78, Tryz.ntmps78
  go_wp2
  go_loopw [9, 10] (fun i j wr => ∃ a b : Nat, a ≤ b ∧ b ≤ l.length ∧ i = .int .i64 (a : Int) ∧ j = .int .i64 (b : Int) ∧ Hid (∀ t, t < a → Mk.maker (gt l t) < k) ∧ Hid (∀ t, b ≤ t → t < l.length → k ≤ Mk.maker (gt l t)) ∧ Below w.heap.size w wr) (fun i j _ => (intOf j).toNat - (intOf i).toNat)
  case atStart => exact ⟨0, l.length, Nat.zero_le _, Nat.le_refl _, rfl, rfl, Lib.hid (fun t ht => absurd ht (Nat.not_lt_zero t)), Lib.hid (fun t h1 h2 => absurd h2 (by omega)), Below.refl _ _⟩
  case round =>
    obtain ⟨a, b, hab, hbl, rfl, rfl, HA, HZ, hbel⟩ := hrel
    by_cases hlt : a < b
    · have hsz := hbel.size
      have hr := HR.out.below (hbel.mono hB)
      obtain ⟨bb, off, rfl, hbB⟩ := row_addr hr (by omega)
      have hh := half_in hlt (by omega : b ≤ 17592186044416)
      have hhl : (a + b) / 2 < l.length := by omega
      obtain ⟨p0, p1⟩ : wr.cell? ⟨bb, off + (a + b) / 2 * 2, none⟩ = some (.int .i64 (gt l ((a + b) / 2)).maker) ∧ wr.cell? ⟨bb, off + (a + b) / 2 * 2 + 1, none⟩ = some (.int .i64 (gt l ((a + b) / 2)).seq) := ⟨row_cell mcs_len hr hhl (j := 0) rfl, row_cell mcs_len hr hhl (j := 1) rfl⟩
      have HT2 := Lib.hid (HT.out (gt l ((a + b) / 2)) wr hbel)
      have HLo : Hid (Mk.maker (gt l ((a + b) / 2)) < k → ∀ t, t < (a + b) / 2 + 1 → Mk.maker (gt l t) < k) := Lib.hid fun h t ht => by
        rcases Nat.lt_or_ge t ((a + b) / 2) with h1 | h1
        · have := srt_gt HS.out h1 hhl; omega
        · obtain rfl : t = (a + b) / 2 := by omega
          exact h
      have HHi : Hid (¬ Mk.maker (gt l ((a + b) / 2)) < k → ∀ t, (a + b) / 2 ≤ t → t < l.length → k ≤ Mk.maker (gt l t)) := Lib.hid fun h t h1 h2 => by
        rcases Nat.lt_or_ge ((a + b) / 2) t with h3 | h3
        · have := srt_gt HS.out h3 h2; omega
        · obtain rfl : t = (a + b) / 2 := by omega
          omega
      have HC := Lib.hid (cmpI_neg (Mk.maker (gt l ((a + b) / 2))) k)
      clear hr HR HT HS
      generalize gt l ((a + b) / 2) = x at *
      generalize cmpI (Mk.maker x) k = z at *
      by_cases hc : Mk.maker x < k
      · have t0 : decide (z < 0) = true := by rw [HC.out, dct hc]
        have HA2 := Lib.hid (HLo.out hc)
        clear HLo HHi HC hc HA
        go_wp2_with fail
        refine HT2.out.mono ?_
        rintro e w' ⟨rfl, hb'⟩
        have hbe := hbel.trans (hb'.mono hsz)
        go_wp2
        go_roundw
        case rel => exact ⟨(a + b) / 2 + 1, b, by omega, by omega, by go_num, rfl, HA2, HZ, hbe⟩
        case measure => simp [intOf]; omega
      · have t0 : decide (z < 0) = false := by rw [HC.out, dcf hc]
        have HZ2 := Lib.hid (HHi.out hc)
        clear HLo HHi HC hc HZ
        go_wp2_with fail
        refine HT2.out.mono ?_
        rintro e w' ⟨rfl, hb'⟩
        have hbe := hbel.trans (hb'.mono hsz)
        go_wp2
        go_roundw
        case rel => exact ⟨a, (a + b) / 2, by omega, by omega, rfl, by go_num, HA, HZ2, hbe⟩
        case measure => simp [intOf]; omega
    · obtain rfl : a = b := by omega
      have HP : Hid (posL Mk.maker k l = a) := Lib.hid (posL_at hbl HA.out (fun h => HZ.out a (Nat.le_refl _) h))
      by_cases hal : a < l.length
      · have hsz := hbel.size
        have hr := HR.out.below (hbel.mono hB)
        obtain ⟨bb, off, rfl, hbB⟩ := row_addr hr (by omega)
        obtain ⟨p0, p1⟩ : wr.cell? ⟨bb, off + a * 2, none⟩ = some (.int .i64 (gt l a).maker) ∧ wr.cell? ⟨bb, off + a * 2 + 1, none⟩ = some (.int .i64 (gt l a).seq) := ⟨row_cell mcs_len hr hal (j := 0) rfl, row_cell mcs_len hr hal (j := 1) rfl⟩
        have HT2 := Lib.hid (HT.out (gt l a) wr hbel)
        have HC := Lib.hid (cmpI_zero (Mk.maker (gt l a)) k)
        have HQ : Hid (thereL Mk.maker k l = decide (Mk.maker (gt l a) = k)) := Lib.hid (by unfold thereL; rw [HP.out, dct hal]; rfl)
        have d1 : decide ((a : Int) < (l.length : Int)) = true := dct (by omega)
        clear hr HR HT HS HA HZ
        generalize gt l a = x at *
        generalize cmpI (Mk.maker x) k = z at *
        go_wp2_with fail
        refine HT2.out.mono ?_
        rintro e w' ⟨rfl, hb'⟩
        have hbe := hbel.trans (hb'.mono hsz)
        go_wp2
        go_ret2
        exact ⟨by rw [HP.out, HQ.out, ← HC.out]; rfl, hbe⟩
      · have d1 : decide ((a : Int) < (l.length : Int)) = false := dcf (by omega)
        have HQ : Hid (thereL Mk.maker k l = false) := Lib.hid (by unfold thereL; rw [HP.out, dcf hal]; rfl)
        go_wp2
        go_ret2
        exact ⟨by rw [HP.out, HQ.out]; rfl, hbel⟩
set_option maxRecDepth 100000 in
set_option maxHeartbeats 3200000 in
theorem searchO_calls (w : World) {B c g : Nat} {lb : Array Value} {A : Option Addr} {l : List Ow} {k : Int} (ht : Cmps w g lb owV Ow.agent k) (h : Reads w B 3 A l.length (l.flatMap Ow.cs)) (hB : B ≤ w.heap.size) (hn : l.length ≤ 17592186044416) (hs : Srt Ow.agent l) :
    Calls Tryz.prog 82 #[.slice A l.length c, .int .i64 k, .func (.func g) #[] lb] w fun e w' => e = .returned (.tuple #[.int .i64 (posL Ow.agent k l : Nat), .bool (thereL Ow.agent k l)]) ∧ Below w.heap.size w w' := by
  have HR := Lib.hid h
  have HT := Lib.hid ht.2
  have HS := Lib.hid hs
  have eg := ht.1
  clear h ht hs
  go_enter Tryz.func82, Tryz.ntmps82
  go_wp2
  go_loopw [9, 10] (fun i j wr => ∃ a b : Nat, a ≤ b ∧ b ≤ l.length ∧ i = .int .i64 (a : Int) ∧ j = .int .i64 (b : Int) ∧ Hid (∀ t, t < a → Ow.agent (gt l t) < k) ∧ Hid (∀ t, b ≤ t → t < l.length → k ≤ Ow.agent (gt l t)) ∧ Below w.heap.size w wr) (fun i j _ => (intOf j).toNat - (intOf i).toNat)
  case atStart => exact ⟨0, l.length, Nat.zero_le _, Nat.le_refl _, rfl, rfl, Lib.hid (fun t ht => absurd ht (Nat.not_lt_zero t)), Lib.hid (fun t h1 h2 => absurd h2 (by omega)), Below.refl _ _⟩
  case round =>
    obtain ⟨a, b, hab, hbl, rfl, rfl, HA, HZ, hbel⟩ := hrel
    by_cases hlt : a < b
    · have hsz := hbel.size
      have hr := HR.out.below (hbel.mono hB)
      obtain ⟨bb, off, rfl, hbB⟩ := row_addr hr (by omega)
      have hh := half_in hlt (by omega : b ≤ 17592186044416)
      have hhl : (a + b) / 2 < l.length := by omega
      obtain ⟨p0, p1, p2⟩ : wr.cell? ⟨bb, off + (a + b) / 2 * 3, none⟩ = some (.int .i64 (gt l ((a + b) / 2)).agent) ∧ wr.cell? ⟨bb, off + (a + b) / 2 * 3 + 1, none⟩ = some (.int .i64 (gt l ((a + b) / 2)).life) ∧ wr.cell? ⟨bb, off + (a + b) / 2 * 3 + 2, none⟩ = some (.int .i64 (gt l ((a + b) / 2)).count) := ⟨row_cell ocs_len hr hhl (j := 0) rfl, row_cell ocs_len hr hhl (j := 1) rfl, row_cell ocs_len hr hhl (j := 2) rfl⟩
      have HT2 := Lib.hid (HT.out (gt l ((a + b) / 2)) wr hbel)
      have HLo : Hid (Ow.agent (gt l ((a + b) / 2)) < k → ∀ t, t < (a + b) / 2 + 1 → Ow.agent (gt l t) < k) := Lib.hid fun h t ht => by
        rcases Nat.lt_or_ge t ((a + b) / 2) with h1 | h1
        · have := srt_gt HS.out h1 hhl; omega
        · obtain rfl : t = (a + b) / 2 := by omega
          exact h
      have HHi : Hid (¬ Ow.agent (gt l ((a + b) / 2)) < k → ∀ t, (a + b) / 2 ≤ t → t < l.length → k ≤ Ow.agent (gt l t)) := Lib.hid fun h t h1 h2 => by
        rcases Nat.lt_or_ge ((a + b) / 2) t with h3 | h3
        · have := srt_gt HS.out h3 h2; omega
        · obtain rfl : t = (a + b) / 2 := by omega
          omega
      have HC := Lib.hid (cmpI_neg (Ow.agent (gt l ((a + b) / 2))) k)
      clear hr HR HT HS
      generalize gt l ((a + b) / 2) = x at *
      generalize cmpI (Ow.agent x) k = z at *
      by_cases hc : Ow.agent x < k
      · have t0 : decide (z < 0) = true := by rw [HC.out, dct hc]
        have HA2 := Lib.hid (HLo.out hc)
        clear HLo HHi HC hc HA
        go_wp2_with fail
        refine HT2.out.mono ?_
        rintro e w' ⟨rfl, hb'⟩
        have hbe := hbel.trans (hb'.mono hsz)
        go_wp2
        go_roundw
        case rel => exact ⟨(a + b) / 2 + 1, b, by omega, by omega, by go_num, rfl, HA2, HZ, hbe⟩
        case measure => simp [intOf]; omega
      · have t0 : decide (z < 0) = false := by rw [HC.out, dcf hc]
        have HZ2 := Lib.hid (HHi.out hc)
        clear HLo HHi HC hc HZ
        go_wp2_with fail
        refine HT2.out.mono ?_
        rintro e w' ⟨rfl, hb'⟩
        have hbe := hbel.trans (hb'.mono hsz)
        go_wp2
        go_roundw
        case rel => exact ⟨a, (a + b) / 2, by omega, by omega, rfl, by go_num, HA, HZ2, hbe⟩
        case measure => simp [intOf]; omega
    · obtain rfl : a = b := by omega
      have HP : Hid (posL Ow.agent k l = a) := Lib.hid (posL_at hbl HA.out (fun h => HZ.out a (Nat.le_refl _) h))
      by_cases hal : a < l.length
      · have hsz := hbel.size
        have hr := HR.out.below (hbel.mono hB)
        obtain ⟨bb, off, rfl, hbB⟩ := row_addr hr (by omega)
        obtain ⟨p0, p1, p2⟩ : wr.cell? ⟨bb, off + a * 3, none⟩ = some (.int .i64 (gt l a).agent) ∧ wr.cell? ⟨bb, off + a * 3 + 1, none⟩ = some (.int .i64 (gt l a).life) ∧ wr.cell? ⟨bb, off + a * 3 + 2, none⟩ = some (.int .i64 (gt l a).count) := ⟨row_cell ocs_len hr hal (j := 0) rfl, row_cell ocs_len hr hal (j := 1) rfl, row_cell ocs_len hr hal (j := 2) rfl⟩
        have HT2 := Lib.hid (HT.out (gt l a) wr hbel)
        have HC := Lib.hid (cmpI_zero (Ow.agent (gt l a)) k)
        have HQ : Hid (thereL Ow.agent k l = decide (Ow.agent (gt l a) = k)) := Lib.hid (by unfold thereL; rw [HP.out, dct hal]; rfl)
        have d1 : decide ((a : Int) < (l.length : Int)) = true := dct (by omega)
        clear hr HR HT HS HA HZ
        generalize gt l a = x at *
        generalize cmpI (Ow.agent x) k = z at *
        go_wp2_with fail
        refine HT2.out.mono ?_
        rintro e w' ⟨rfl, hb'⟩
        have hbe := hbel.trans (hb'.mono hsz)
        go_wp2
        go_ret2
        exact ⟨by rw [HP.out, HQ.out, ← HC.out]; rfl, hbe⟩
      · have d1 : decide ((a : Int) < (l.length : Int)) = false := dcf (by omega)
        have HQ : Hid (thereL Ow.agent k l = false) := Lib.hid (by unfold thereL; rw [HP.out, dcf hal]; rfl)
        go_wp2
        go_ret2
        exact ⟨by rw [HP.out, HQ.out]; rfl, hbel⟩
/-! ### rows as lists of things -/
section
variable {α : Type} {cs : α → List Value} {k : Nat}
theorem flat_take (h : ∀ x, (cs x).length = k) : ∀ (l : List α) (i : Nat), (l.flatMap cs).take (i * k) = (l.take i).flatMap cs
  | [], i => by simp
  | x :: r, 0 => by simp
  | x :: r, i + 1 => by
    rw [List.flatMap_cons, List.take_succ_cons, List.flatMap_cons, show (i + 1) * k = (cs x).length + i * k by rw [h, Nat.succ_mul]; omega, List.take_length_add_append, flat_take h r i]
theorem flat_drop (h : ∀ x, (cs x).length = k) : ∀ (l : List α) (i : Nat), (l.flatMap cs).drop (i * k) = (l.drop i).flatMap cs
  | [], i => by simp
  | x :: r, 0 => by simp
  | x :: r, i + 1 => by
    rw [List.flatMap_cons, List.drop_succ_cons, show (i + 1) * k = (cs x).length + i * k by rw [h, Nat.succ_mul]; omega, List.drop_length_add_append, flat_drop h r i]
theorem flat_ins (h : ∀ x, (cs x).length = k) (l : List α) (i : Nat) (x : α) : (l.flatMap cs).take (i * k) ++ cs x ++ (l.flatMap cs).drop (i * k) = (l.take i ++ [x] ++ l.drop i).flatMap cs := by
  rw [flat_take h, flat_drop h, List.flatMap_append, List.flatMap_append]; simp
theorem flat_set (h : ∀ x, (cs x).length = k) {l : List α} {i : Nat} (hi : i < l.length) (x : α) : (l.flatMap cs).take (i * k) ++ cs x ++ (l.flatMap cs).drop ((i + 1) * k) = (l.set i x).flatMap cs := by
  rw [flat_take h, flat_drop h, List.set_eq_take_append_cons_drop, if_pos hi, List.flatMap_append, List.flatMap_cons, List.append_assoc]
theorem flat_len (h : ∀ x, (cs x).length = k) (l : List α) : (l.flatMap cs).length = l.length * k := by
  induction l with
  | nil => simp
  | cons a r ih => rw [List.flatMap_cons, List.length_append, ih, h, List.length_cons, Nat.succ_mul]; omega
theorem put_over {F : Array Value} {xs xv : List Value} {a : Nat} (ha : a + xv.length ≤ xs.length) (hF : xs.length ≤ F.size)
    (h1 : ∀ j, j < a → F[j]? = xs[j]?) (h2 : ∀ j, j < xv.length → F[a + j]? = xv[j]?) (h3 : ∀ j, a + xv.length ≤ j → j < xs.length → F[j]? = xs[j]?) :
    F.toList.take xs.length = xs.take a ++ xv ++ xs.drop (a + xv.length) := by
  apply List.ext_getElem?
  intro j
  have hta : (xs.take a).length = a := by rw [List.length_take]; omega
  by_cases hj : j < xs.length
  · rw [List.getElem?_take, if_pos hj, Array.getElem?_toList]
    rcases Nat.lt_or_ge j a with c1 | c1
    · rw [h1 j c1, List.append_assoc, List.getElem?_append_left (by omega), List.getElem?_take, if_pos c1]
    · rcases Nat.lt_or_ge j (a + xv.length) with c2 | c2
      · have := h2 (j - a) (by omega)
        rw [show a + (j - a) = j by omega] at this
        rw [this, List.getElem?_append_left (by rw [List.length_append]; omega), List.getElem?_append_right (by omega), hta]
      · rw [h3 j c2 hj, List.getElem?_append_right (by rw [List.length_append]; omega), List.getElem?_drop, List.length_append, hta]
        congr 1
        omega
  · rw [List.getElem?_eq_none (by rw [List.length_take]; omega), List.getElem?_eq_none (by rw [List.length_append, List.length_append, List.length_drop]; omega)]
theorem own_over (h : ∀ x, (cs x).length = k) {w : World} {base i c : Nat} {e : TypeId} {A : Option Addr} {l : List α} (ho : w.ownsRow base e k (.slice A l.length c) l.length (l.flatMap cs)) (hi : i < l.length) (x : α) :
    ∃ g, A = some ⟨g, 0, none⟩ ∧ (w.setCells g (i * k) (cs x)).ownsRow base e k (.slice A l.length c) l.length ((l.set i x).flatMap cs) ∧ Only g w (w.setCells g (i * k) (cs x)) ∧ (∀ j, w.frozen? ⟨g, j, none⟩ = false) ∧ ∀ j, j < l.length * k → (w.cell? ⟨g, j, none⟩).isSome = true := by
  obtain ⟨g, cur, rfl, hbg, hg, hnc, hcm, hcs, hct⟩ := own_blk ho (by omega)
  have hxl := ho.1
  have hik : i * k + k ≤ l.length * k := by rw [← Nat.succ_mul]; exact Nat.mul_le_mul_right _ hi
  have hlc : l.length * k ≤ cur.size := by rw [hcs]; exact Nat.mul_le_mul_right _ hnc
  refine ⟨g, rfl, own_of_blk hbg (Blk.setCells_ _ _ hg) hnc hcm (by rw [putAt_size]; exact hcs) ?_ (by rw [flat_len h, List.length_set]), Only.setCells_ _ _ (Only.refl _ w), fun j => hg.frozen j, fun j hj => by rw [hg.cell, Array.getElem?_eq_getElem (by omega)]; rfl⟩
  have hcell : ∀ j, j < (l.flatMap cs).length → cur[j]? = (l.flatMap cs)[j]? := fun j hj => by rw [← hct, List.getElem?_take, if_pos (by omega), Array.getElem?_toList]
  have := put_over (F := putAt cur (i * k) (cs x)) (xs := l.flatMap cs) (xv := cs x) (a := i * k) (by rw [h, hxl]; exact hik) (by rw [putAt_size, hxl]; exact hlc)
    (fun j hj => by rw [putAt_out _ _ _ j (by omega)]; exact hcell j (by omega))
    (fun j hj => putAt_in _ _ _ j (by rw [h]; omega) hj)
    (fun j h1 h2 => by rw [putAt_out _ _ _ j (by omega)]; exact hcell j h2)
  rw [hxl, h, show i * k + k = (i + 1) * k by rw [Nat.succ_mul], flat_set h hi] at this
  exact this
end
theorem below_grown {w w' : World} (h : Below w.heap.size w w') (row : Option Nat) : w.grownBy w' row := ⟨h.os, h.tape, h.output, h.size, fun i hi _ => h.block i hi⟩
def RetPut (w : World) (base size : Nat) (e : TypeId) (v : Value) (n : Nat) (ys : List Value) (en : Ending) (w' : World) : Prop :=
  ∃ A' c', en = .returned (.slice A' n c') ∧ w'.ownsRow base e size (.slice A' n c') n ys ∧ w.grownBy w' v.ownBlock ∧ ((Value.slice A' n c').ownBlock = v.ownBlock ∨ ∃ g, (Value.slice A' n c').ownBlock = some g ∧ w.heap.size ≤ g)

theorem put1M_calls (x : Mk) (k : Int) (w : World) {gf : Nat} (hf : w.cell? ⟨gf, 0, none⟩ = some (.func (.func 32) #[] #[])) : Calls Tryz.prog 79 #[mkV x, .int .i64 k, .pointer (some ⟨gf, 0, none⟩)] w fun e w' => e = .returned (.int .i64 (cmpI x.maker k)) ∧ Below w.heap.size w w' := by
  have hlt := World.block_lt_of_cell? w _ hf
  have eg : ∀ args w, (callFunc 32 args).run Tryz.prog w = .ok (.enter 32 args) w := enters_of Tryz.func32 (by kernel_rfl) rfl
  have hf2 : (w.alloc (.cells #[.int .i64 x.maker, .int .i64 x.seq] 44)).cell? ⟨gf, 0, none⟩ = some (.func (.func 32) #[] #[]) := (World.cell?_alloc_lt w _ _ hlt).trans hf
  have HO := Lib.hid (makerOf_calls x)
  have HC := Lib.hid (cmpI_calls x.maker k)
  have HB := Lib.hid ((Below.refl w.heap.size w).alloc (Nat.le_refl _) (.cells #[.int .i64 x.maker, .int .i64 x.seq] 44))
  go_enter Tryz.func79, Tryz.ntmps79
  go_wp2_with fail
  refine (HO.out _).mono ?_
  rintro e w' ⟨rfl, hb'⟩
  go_wp2_with fail
  refine (HC.out _).mono ?_
  rintro e w2 ⟨rfl, rfl⟩
  go_wp2
  go_ret
  exact ⟨rfl, HB.out.trans (hb'.mono (by simp))⟩
theorem put1O_calls (x : Ow) (k : Int) (w : World) {gf : Nat} (hf : w.cell? ⟨gf, 0, none⟩ = some (.func (.func 35) #[] #[])) : Calls Tryz.prog 83 #[owV x, .int .i64 k, .pointer (some ⟨gf, 0, none⟩)] w fun e w' => e = .returned (.int .i64 (cmpI x.agent k)) ∧ Below w.heap.size w w' := by
  have hlt := World.block_lt_of_cell? w _ hf
  have eg : ∀ args w, (callFunc 35 args).run Tryz.prog w = .ok (.enter 35 args) w := enters_of Tryz.func35 (by kernel_rfl) rfl
  have hf2 : (w.alloc (.cells #[.int .i64 x.agent, .int .i64 x.life, .int .i64 x.count] 29)).cell? ⟨gf, 0, none⟩ = some (.func (.func 35) #[] #[]) := (World.cell?_alloc_lt w _ _ hlt).trans hf
  have HO := Lib.hid (agentOf_calls x)
  have HC := Lib.hid (cmpI_calls x.agent k)
  have HB := Lib.hid ((Below.refl w.heap.size w).alloc (Nat.le_refl _) (.cells #[.int .i64 x.agent, .int .i64 x.life, .int .i64 x.count] 29))
  go_enter Tryz.func83, Tryz.ntmps83
  go_wp2_with fail
  refine (HO.out _).mono ?_
  rintro e w' ⟨rfl, hb'⟩
  go_wp2_with fail
  refine (HC.out _).mono ?_
  rintro e w2 ⟨rfl, rfl⟩
  go_wp2
  go_ret
  exact ⟨rfl, HB.out.trans (hb'.mono (by simp))⟩
set_option maxRecDepth 100000 in
set_option maxHeartbeats 3200000 in
theorem putM_calls (w : World) {base c : Nat} {A : Option Addr} {l : List Mk} {x : Mk} (ho : w.ownsRow base 44 2 (.slice A l.length c) l.length (l.flatMap Mk.cs)) (hs : Srt Mk.maker l) (hn : l.length ≤ 1000000) (hB : base ≤ w.heap.size) :
    Calls Tryz.prog 31 #[.slice A l.length c, mkV x, .func (.func 32) #[] #[]] w (RetPut w base 2 44 (.slice A l.length c) (putL Mk.maker x l).length ((putL Mk.maker x l).flatMap Mk.cs)) := by
  have HO := Lib.hid ho
  have HSrt := Lib.hid hs
  have eg : ∀ args w, (callFunc 32 args).run Tryz.prog w = .ok (.enter 32 args) w := enters_of Tryz.func32 (by kernel_rfl) rfl
  have HOC := Lib.hid (makerOf_calls x)
  clear ho hs
  have hB0 : Below w.heap.size w ((w.alloc (.cells #[.int .i64 x.maker, .int .i64 x.seq] 44)).alloc (.cells #[.func (.func 32) #[] #[]] 68)) := ((Below.refl w.heap.size w).alloc (Nat.le_refl _) _).alloc (by simp) _
  have hbx : Blk ((w.alloc (.cells #[.int .i64 x.maker, .int .i64 x.seq] 44)).alloc (.cells #[.func (.func 32) #[] #[]] 68)) w.heap.size 44 #[.int .i64 x.maker, .int .i64 x.seq] := (Blk.new w 44 #[.int .i64 x.maker, .int .i64 x.seq]).alloc _
  have hbf : Blk ((w.alloc (.cells #[.int .i64 x.maker, .int .i64 x.seq] 44)).alloc (.cells #[.func (.func 32) #[] #[]] 68)) (w.heap.size + 1) 68 #[.func (.func 32) #[] #[]] := by
    have := Blk.new (w.alloc (.cells #[.int .i64 x.maker, .int .i64 x.seq] 44)) 68 #[.func (.func 32) #[] #[]]
    rw [World.size_alloc] at this
    exact this
  have hsz0 : ((w.alloc (.cells #[.int .i64 x.maker, .int .i64 x.seq] 44)).alloc (.cells #[.func (.func 32) #[] #[]] 68)).heap.size = w.heap.size + 2 := by simp
  have HB0 := Lib.hid hB0
  have HBX := Lib.hid hbx
  have HBF := Lib.hid hbf
  have HSZ := Lib.hid hsz0
  clear hB0 hbx hbf hsz0
  go_enter Tryz.func31, Tryz.ntmps31
  go_wp2_with fail
  generalize (w.alloc (.cells #[.int .i64 x.maker, .int .i64 x.seq] 44)).alloc (.cells #[.func (.func 32) #[] #[]] 68) = wm at *
  refine (HOC.out _).mono ?_
  rintro e w1 ⟨rfl, hb1⟩
  rw [HSZ.out] at hb1
  have HB1 := Lib.hid hb1
  have HW1 := Lib.hid (HB0.out.trans (hb1.mono (by omega)))
  have HO1 := Lib.hid (own_below HO.out HW1.out)
  have HF1 := Lib.hid (HBF.out.below hb1 (by omega))
  have HX1 := Lib.hid (HBX.out.below hb1 (by omega))
  have HSC : Hid (Calls Tryz.prog 78 #[.slice A l.length c, .int .i64 x.maker, .func (.func 79) #[] #[.pointer (some ⟨w.heap.size + 1, 0, none⟩)]] w1 fun e w' => e = .returned (.tuple #[.int .i64 (posL Mk.maker x.maker l : Nat), .bool (thereL Mk.maker x.maker l)]) ∧ Below w1.heap.size w1 w') := Lib.hid (searchM_calls w1 ⟨enters_of Tryz.func79 (by kernel_rfl) rfl, fun y W hW => put1M_calls y x.maker W ((HF1.out.below hW HF1.out.lt).cell 0)⟩ (Reads.of_own HO1.out) (Nat.le_refl _) (by omega) HSrt.out)
  have hsz1 : w.heap.size + 2 ≤ w1.heap.size := by have := hb1.size; rw [HSZ.out] at this; exact this
  clear hb1 HBF HBX HB1 HB0 HO HSZ HOC
  go_wp2_with fail
  refine HSC.out.mono ?_
  rintro e w2 ⟨rfl, hb2⟩
  have HO2 := Lib.hid (own_below HO1.out hb2)
  have HX2 := Lib.hid (HX1.out.below hb2 HX1.out.lt)
  have HW2 := Lib.hid (HW1.out.trans (hb2.mono (by omega)))
  have hsz2 := hb2.size
  obtain ⟨p0, p1⟩ : w2.cell? ⟨w.heap.size, 0, none⟩ = some (.int .i64 x.maker) ∧ w2.cell? ⟨w.heap.size, 1, none⟩ = some (.int .i64 x.seq) := ⟨HX2.out.cell 0, HX2.out.cell 1⟩
  have HPA := Lib.hid (putL_at (k := Mk.maker) x l)
  have hpl := posL_le (k := Mk.maker) x.maker l
  have HQ : Hid (thereL Mk.maker x.maker l = true → posL Mk.maker x.maker l < l.length) := Lib.hid fun h => by unfold thereL at h; rw [Bool.and_eq_true, decide_eq_true_eq] at h; exact h.1
  clear hb2 HX1 HO1 HF1 HW1 HSC HSrt HX2
  have HG := Lib.hid (putL_len (k := Mk.maker) x l)
  generalize putL Mk.maker x l = L at *
  generalize hii : posL Mk.maker x.maker l = i at *
  clear hii
  generalize thereL Mk.maker x.maker l = b at *
  cases b with
  | true =>
    have hi := HQ.out rfl
    obtain ⟨g, rfl, ho, hOn, hfz, hcl⟩ := own_over mcs_len HO2.out hi x
    have HE : Hid (L = l.set i x) := Lib.hid (HPA.out.trans (if_pos rfl))
    have HF2 : Hid (RetPut w base 2 44 (.slice (some ⟨g, 0, none⟩) l.length c) L.length (L.flatMap Mk.cs) (.returned (.slice (some ⟨g, 0, none⟩) l.length c)) (w2.setCells g (i * 2) (Mk.cs x))) := Lib.hid (by
      rw [HE.out, List.length_set]
      exact ⟨_, _, rfl, ho, (Only.of_below HW2.out).trans hOn, .inl rfl⟩)
    have i0 : (0 : Int) ≤ (i : Int) := by omega
    have i9 : (i : Int) < (l.length : Int) := by omega
    have f0 := hfz (i * 2)
    have f1 := hfz (i * 2 + 1)
    have f2 := hfz (i * 2 + 2)
    obtain ⟨v0, c0⟩ := Option.isSome_iff_exists.1 (hcl (i * 2) (by omega))
    obtain ⟨v1, c1⟩ := Option.isSome_iff_exists.1 (hcl (i * 2 + 1) (by omega))
    have c2 : 2 = 2 ∨ ∃ v2, w2.cell? ⟨g, i * 2 + 2, none⟩ = some v2 := by first | exact .inl rfl | exact .inr (Option.isSome_iff_exists.1 (hcl (i * 2 + 2) (by omega)))
    obtain ⟨v2, c2⟩ : ∃ v2, 2 = 2 ∨ w2.cell? ⟨g, i * 2 + 2, none⟩ = some v2 := by
      rcases c2 with h | ⟨v, h⟩
      · exact ⟨undef, .inl h⟩
      · exact ⟨v, .inr h⟩
    have c3 := c2.resolve_left
    (try replace c3 := c3 (by decide))
    clear c2
    clear hfz hcl ho hOn HPA HQ HG HE HO2
    go_wp2
    go_ret
    exact HF2.out
  | false =>
    have HE : Hid (L = l.take i ++ [x] ++ l.drop i) := Lib.hid (HPA.out.trans (if_neg (by decide)))
    have hl1 : L.length = l.length + 1 := by rw [HE.out, List.length_append, List.length_append, List.length_take, List.length_drop, List.length_singleton]; omega
    have HL1 := Lib.hid hl1
    clear hl1
    have HOw : Hid ((Value.slice A l.length c).ownBlock ≠ some w2.heap.size) := Lib.hid fun e => by
      rcases HO2.out.2 with ⟨hv, _⟩ | ⟨g, cap, cur, hv, _, hg, _⟩
      · rw [hv] at e; cases e
      · rw [hv] at e
        injection e with e
        have := Blk.lt (show Blk w2 g _ cur from hg)
        have e' : g = w2.heap.size := e
        omega
    have HIn : Hid (Calls Tryz.prog 81 #[.slice A l.length c, .int .i64 (i : Int), .slice (some ⟨w2.heap.size, 0, none⟩) 1 1] (w2.alloc (.cells #[.int .i64 x.maker, .int .i64 x.seq] 44)) (RetIns (w2.alloc (.cells #[.int .i64 x.maker, .int .i64 x.seq] 44)) base l.length 2 44 A c ((l.flatMap Mk.cs).take (i * 2) ++ Mk.cs x ++ (l.flatMap Mk.cs).drop (i * 2)))) :=
      Lib.hid (insM_calls (w2.alloc (.cells #[.int .i64 x.maker, .int .i64 x.seq] 44)) (HO2.out.alloc _) (Blk.new w2 44 #[.int .i64 x.maker, .int .i64 x.seq]) HOw.out (mcs_len x) (mcs_one l) (fun v hv => mcs_one [x] v (by simpa using hv)) hn (by simp; omega) hpl)
    clear HOw HO2 HPA HQ HG
    go_wp2_with fail
    refine HIn.out.mono ?_
    rintro e w3 ⟨A', c', rfl, hown, hgr, hob⟩
    rw [flat_ins mcs_len, ← HE.out] at hown
    have HFin : Hid (RetPut w base 2 44 (.slice A l.length c) L.length (L.flatMap Mk.cs) (.returned (.slice A' (l.length + 1) c')) w3) := Lib.hid (by
      rw [HL1.out]
      refine ⟨A', c', rfl, hown, World.grownBy.trans (below_grown ((HW2.out.alloc (by omega) _)) _) hgr, ?_⟩
      rcases hob with h | h
      · exact .inl h
      · exact .inr ⟨_, h, by simp; omega⟩)
    clear hown hgr hob HIn HE HL1
    go_wp2
    go_ret
    exact HFin.out
set_option maxRecDepth 100000 in
set_option maxHeartbeats 3200000 in
theorem putO_calls (w : World) {base c : Nat} {A : Option Addr} {l : List Ow} {x : Ow} (ho : w.ownsRow base 29 3 (.slice A l.length c) l.length (l.flatMap Ow.cs)) (hs : Srt Ow.agent l) (hn : l.length ≤ 1000000) (hB : base ≤ w.heap.size) :
    Calls Tryz.prog 33 #[.slice A l.length c, owV x, .func (.func 35) #[] #[]] w (RetPut w base 3 29 (.slice A l.length c) (putL Ow.agent x l).length ((putL Ow.agent x l).flatMap Ow.cs)) := by
  have HO := Lib.hid ho
  have HSrt := Lib.hid hs
  have eg : ∀ args w, (callFunc 35 args).run Tryz.prog w = .ok (.enter 35 args) w := enters_of Tryz.func35 (by kernel_rfl) rfl
  have HOC := Lib.hid (agentOf_calls x)
  clear ho hs
  have hB0 : Below w.heap.size w ((w.alloc (.cells #[.int .i64 x.agent, .int .i64 x.life, .int .i64 x.count] 29)).alloc (.cells #[.func (.func 35) #[] #[]] 71)) := ((Below.refl w.heap.size w).alloc (Nat.le_refl _) _).alloc (by simp) _
  have hbx : Blk ((w.alloc (.cells #[.int .i64 x.agent, .int .i64 x.life, .int .i64 x.count] 29)).alloc (.cells #[.func (.func 35) #[] #[]] 71)) w.heap.size 29 #[.int .i64 x.agent, .int .i64 x.life, .int .i64 x.count] := (Blk.new w 29 #[.int .i64 x.agent, .int .i64 x.life, .int .i64 x.count]).alloc _
  have hbf : Blk ((w.alloc (.cells #[.int .i64 x.agent, .int .i64 x.life, .int .i64 x.count] 29)).alloc (.cells #[.func (.func 35) #[] #[]] 71)) (w.heap.size + 1) 71 #[.func (.func 35) #[] #[]] := by
    have := Blk.new (w.alloc (.cells #[.int .i64 x.agent, .int .i64 x.life, .int .i64 x.count] 29)) 71 #[.func (.func 35) #[] #[]]
    rw [World.size_alloc] at this
    exact this
  have hsz0 : ((w.alloc (.cells #[.int .i64 x.agent, .int .i64 x.life, .int .i64 x.count] 29)).alloc (.cells #[.func (.func 35) #[] #[]] 71)).heap.size = w.heap.size + 2 := by simp
  have HB0 := Lib.hid hB0
  have HBX := Lib.hid hbx
  have HBF := Lib.hid hbf
  have HSZ := Lib.hid hsz0
  clear hB0 hbx hbf hsz0
  go_enter Tryz.func33, Tryz.ntmps33
  go_wp2_with fail
  generalize (w.alloc (.cells #[.int .i64 x.agent, .int .i64 x.life, .int .i64 x.count] 29)).alloc (.cells #[.func (.func 35) #[] #[]] 71) = wm at *
  refine (HOC.out _).mono ?_
  rintro e w1 ⟨rfl, hb1⟩
  rw [HSZ.out] at hb1
  have HB1 := Lib.hid hb1
  have HW1 := Lib.hid (HB0.out.trans (hb1.mono (by omega)))
  have HO1 := Lib.hid (own_below HO.out HW1.out)
  have HF1 := Lib.hid (HBF.out.below hb1 (by omega))
  have HX1 := Lib.hid (HBX.out.below hb1 (by omega))
  have HSC : Hid (Calls Tryz.prog 82 #[.slice A l.length c, .int .i64 x.agent, .func (.func 83) #[] #[.pointer (some ⟨w.heap.size + 1, 0, none⟩)]] w1 fun e w' => e = .returned (.tuple #[.int .i64 (posL Ow.agent x.agent l : Nat), .bool (thereL Ow.agent x.agent l)]) ∧ Below w1.heap.size w1 w') := Lib.hid (searchO_calls w1 ⟨enters_of Tryz.func83 (by kernel_rfl) rfl, fun y W hW => put1O_calls y x.agent W ((HF1.out.below hW HF1.out.lt).cell 0)⟩ (Reads.of_own HO1.out) (Nat.le_refl _) (by omega) HSrt.out)
  have hsz1 : w.heap.size + 2 ≤ w1.heap.size := by have := hb1.size; rw [HSZ.out] at this; exact this
  clear hb1 HBF HBX HB1 HB0 HO HSZ HOC
  go_wp2_with fail
  refine HSC.out.mono ?_
  rintro e w2 ⟨rfl, hb2⟩
  have HO2 := Lib.hid (own_below HO1.out hb2)
  have HX2 := Lib.hid (HX1.out.below hb2 HX1.out.lt)
  have HW2 := Lib.hid (HW1.out.trans (hb2.mono (by omega)))
  have hsz2 := hb2.size
  obtain ⟨p0, p1, p2⟩ : w2.cell? ⟨w.heap.size, 0, none⟩ = some (.int .i64 x.agent) ∧ w2.cell? ⟨w.heap.size, 1, none⟩ = some (.int .i64 x.life) ∧ w2.cell? ⟨w.heap.size, 2, none⟩ = some (.int .i64 x.count) := ⟨HX2.out.cell 0, HX2.out.cell 1, HX2.out.cell 2⟩
  have HPA := Lib.hid (putL_at (k := Ow.agent) x l)
  have hpl := posL_le (k := Ow.agent) x.agent l
  have HQ : Hid (thereL Ow.agent x.agent l = true → posL Ow.agent x.agent l < l.length) := Lib.hid fun h => by unfold thereL at h; rw [Bool.and_eq_true, decide_eq_true_eq] at h; exact h.1
  clear hb2 HX1 HO1 HF1 HW1 HSC HSrt HX2
  have HG := Lib.hid (putL_len (k := Ow.agent) x l)
  generalize putL Ow.agent x l = L at *
  generalize hii : posL Ow.agent x.agent l = i at *
  clear hii
  generalize thereL Ow.agent x.agent l = b at *
  cases b with
  | true =>
    have hi := HQ.out rfl
    obtain ⟨g, rfl, ho, hOn, hfz, hcl⟩ := own_over ocs_len HO2.out hi x
    have HE : Hid (L = l.set i x) := Lib.hid (HPA.out.trans (if_pos rfl))
    have HF2 : Hid (RetPut w base 3 29 (.slice (some ⟨g, 0, none⟩) l.length c) L.length (L.flatMap Ow.cs) (.returned (.slice (some ⟨g, 0, none⟩) l.length c)) (w2.setCells g (i * 3) (Ow.cs x))) := Lib.hid (by
      rw [HE.out, List.length_set]
      exact ⟨_, _, rfl, ho, (Only.of_below HW2.out).trans hOn, .inl rfl⟩)
    have i0 : (0 : Int) ≤ (i : Int) := by omega
    have i9 : (i : Int) < (l.length : Int) := by omega
    have f0 := hfz (i * 3)
    have f1 := hfz (i * 3 + 1)
    have f2 := hfz (i * 3 + 2)
    obtain ⟨v0, c0⟩ := Option.isSome_iff_exists.1 (hcl (i * 3) (by omega))
    obtain ⟨v1, c1⟩ := Option.isSome_iff_exists.1 (hcl (i * 3 + 1) (by omega))
    have c2 : 3 = 2 ∨ ∃ v2, w2.cell? ⟨g, i * 3 + 2, none⟩ = some v2 := by first | exact .inl rfl | exact .inr (Option.isSome_iff_exists.1 (hcl (i * 3 + 2) (by omega)))
    obtain ⟨v2, c2⟩ : ∃ v2, 3 = 2 ∨ w2.cell? ⟨g, i * 3 + 2, none⟩ = some v2 := by
      rcases c2 with h | ⟨v, h⟩
      · exact ⟨undef, .inl h⟩
      · exact ⟨v, .inr h⟩
    have c3 := c2.resolve_left
    (try replace c3 := c3 (by decide))
    clear c2
    clear hfz hcl ho hOn HPA HQ HG HE HO2
    go_wp2
    go_ret
    exact HF2.out
  | false =>
    have HE : Hid (L = l.take i ++ [x] ++ l.drop i) := Lib.hid (HPA.out.trans (if_neg (by decide)))
    have hl1 : L.length = l.length + 1 := by rw [HE.out, List.length_append, List.length_append, List.length_take, List.length_drop, List.length_singleton]; omega
    have HL1 := Lib.hid hl1
    clear hl1
    have HOw : Hid ((Value.slice A l.length c).ownBlock ≠ some w2.heap.size) := Lib.hid fun e => by
      rcases HO2.out.2 with ⟨hv, _⟩ | ⟨g, cap, cur, hv, _, hg, _⟩
      · rw [hv] at e; cases e
      · rw [hv] at e
        injection e with e
        have := Blk.lt (show Blk w2 g _ cur from hg)
        have e' : g = w2.heap.size := e
        omega
    have HIn : Hid (Calls Tryz.prog 84 #[.slice A l.length c, .int .i64 (i : Int), .slice (some ⟨w2.heap.size, 0, none⟩) 1 1] (w2.alloc (.cells #[.int .i64 x.agent, .int .i64 x.life, .int .i64 x.count] 29)) (RetIns (w2.alloc (.cells #[.int .i64 x.agent, .int .i64 x.life, .int .i64 x.count] 29)) base l.length 3 29 A c ((l.flatMap Ow.cs).take (i * 3) ++ Ow.cs x ++ (l.flatMap Ow.cs).drop (i * 3)))) :=
      Lib.hid (insO_calls (w2.alloc (.cells #[.int .i64 x.agent, .int .i64 x.life, .int .i64 x.count] 29)) (HO2.out.alloc _) (Blk.new w2 29 #[.int .i64 x.agent, .int .i64 x.life, .int .i64 x.count]) HOw.out (ocs_len x) (ocs_one l) (fun v hv => ocs_one [x] v (by simpa using hv)) hn (by simp; omega) hpl)
    clear HOw HO2 HPA HQ HG
    go_wp2_with fail
    refine HIn.out.mono ?_
    rintro e w3 ⟨A', c', rfl, hown, hgr, hob⟩
    rw [flat_ins ocs_len, ← HE.out] at hown
    have HFin : Hid (RetPut w base 3 29 (.slice A l.length c) L.length (L.flatMap Ow.cs) (.returned (.slice A' (l.length + 1) c')) w3) := Lib.hid (by
      rw [HL1.out]
      refine ⟨A', c', rfl, hown, World.grownBy.trans (below_grown ((HW2.out.alloc (by omega) _)) _) hgr, ?_⟩
      rcases hob with h | h
      · exact .inl h
      · exact .inr ⟨_, h, by simp; omega⟩)
    clear hown hgr hob HIn HE HL1
    go_wp2
    go_ret
    exact HFin.out
end Go.Proofs.YtjbmlhipjceeeaaGreat.Mf
