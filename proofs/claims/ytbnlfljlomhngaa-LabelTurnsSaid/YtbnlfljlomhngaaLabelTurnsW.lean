/- The walk of LabelTurns. -/
import Derived.Test.YtbnlfljlomhngaaMatC
import Derived.Test.YtbnlfljlomhngaaGrow
import Derived.Deep.MidRow
import Derived.Lib.SmallJoins
import Derived.Great.BuildSlice
namespace Go.Proofs.Ytbnlfljlomhngaa.lawLabelTurns
open Go.RowKit

set_option maxRecDepth 100000 in
set_option maxHeartbeats 800000 in
theorem early (w : World) {B c : Nat} {A : Option Addr} {l : List Lab} (h : Labs w B A l) (hB : B ≤ w.heap.size) (hf : Fit l) (hn : l.length ≤ 4398046511104)
    (n : ByteArray) (way : Int) (v : ByteArray) (k : Int) (hfm : FitM (n, way, v)) (hc : fewB l = false ∨ (fewB l = true ∧ rightB l = false) ∨ (fewB l = true ∧ rightB l = true ∧ asksB (n, way, v) = false)) :
    Calls Try.prog 7 #[.slice A l.length c, .agg #[.string n, .int .i64 way, .string v], .int .i64 k] w fun e w' => e = .returned (.bool true) ∧ Below w.heap.size w w' := by
  have Hf := Lib.hid hf
  clear hf
  have hn2 : l.length ≤ 140737488355328 := by omega
  have HA := fun W => Lib.hid (asks_calls W n way v hfm)
  rcases hc with hq | ⟨hq, hr⟩ | ⟨hq, hr, ha⟩
  all_goals
    have HQ := Lib.hid hq
    clear hq
    try (have HR := Lib.hid hr; clear hr)
    try (rw [ha] at HA; clear ha)
    go_enter Try.func7, Try.ntmps7
    go_wp2_with fail
    have hb0 := (Below.refl w.heap.size w).alloc (Nat.le_refl _) (.cells #[.string n, .int .i64 way, .string v] 42)
    have hx0 := Blk.new w 42 #[.string n, .int .i64 way, .string v]
    refine (lives_calls _).mono ?_
    rintro e w1 ⟨rfl, hb1⟩
    have hx1 := hx0.below hb1 hx0.lt
    have hb01 := hb0.trans (hb1.mono (by simp))
    have h1 := h.below (hb01.mono hB)
    have s1 := hx1.lt
    clear hb0 hx0 hb1
    go_wp2_with fail
    refine (few_calls w1 h1 (by omega) Hf.out hn2).mono ?_
    rw [HQ.out]
    rintro e w2 ⟨rfl, hb2⟩
    have hb02 := hb01.trans (hb2.mono (by omega))
    have hx2 := hx1.below hb2 s1
    have s2 := hx2.lt
  · go_wp2_with fail
    refine (lives_calls w2).mono ?_
    rintro e w3 ⟨rfl, hb3⟩
    go_wp2
    go_ret
    exact ⟨rfl, hb02.trans (hb3.mono (by omega))⟩
  · go_wp2_with fail
    refine (right_calls w2 (h1.below (hb2.mono (by omega))) (by omega) Hf.out hn2).mono ?_
    rw [HR.out]
    rintro e w3 ⟨rfl, hb3⟩
    have hb03 := hb02.trans (hb3.mono (by omega))
    have s3 := hb3.size
    go_wp2_with fail
    refine (lives_calls w3).mono ?_
    rintro e w4 ⟨rfl, hb4⟩
    go_wp2
    go_ret
    exact ⟨rfl, hb03.trans (hb4.mono (by omega))⟩
  · go_wp2_with fail
    refine (right_calls w2 (h1.below (hb2.mono (by omega))) (by omega) Hf.out hn2).mono ?_
    rw [HR.out]
    rintro e w3 ⟨rfl, hb3⟩
    have hb03 := hb02.trans (hb3.mono (by omega))
    have hx3 := hx2.below hb3 s2
    have s3 := hx3.lt
    have y0 := hx3.cell 0
    have y1 := hx3.cell 1
    have y2 := hx3.cell 2
    simp only [List.getElem?_toArray, List.getElem?_cons_zero, List.getElem?_cons_succ] at y0 y1 y2
    go_wp2_with fail
    refine (HA _).out.mono ?_
    rintro e w4 ⟨rfl, hb4⟩
    have hb04 := hb03.trans (hb4.mono (by omega))
    have s4 := hb4.size
    go_wp2_with fail
    refine (lives_calls w4).mono ?_
    rintro e w5 ⟨rfl, hb5⟩
    go_wp2
    go_ret
    exact ⟨rfl, hb04.trans (hb5.mono (by omega))⟩

theorem cut_in (x : Int) {s : Nat} (h1 : 1 ≤ s) (h2 : s ≤ 20490) : ∃ P : Nat, (IntKind.u64.wrap x).tmod (s : Int) = (P : Int) ∧ P < s := by
  have h0 : 0 ≤ IntKind.u64.wrap x := by rw [IntKind.wrap_u64]; omega
  have h3 : (IntKind.u64.wrap x).tmod (s : Int) = IntKind.u64.wrap x % (s : Int) := Int.tmod_eq_emod_of_nonneg h0
  have h4 := Int.emod_nonneg (IntKind.u64.wrap x) (b := (s : Int)) (by omega)
  have h5 := Int.emod_lt_of_pos (IntKind.u64.wrap x) (b := (s : Int)) (by omega)
  rw [h3]
  exact ⟨(IntKind.u64.wrap x % (s : Int)).toNat, by omega, by omega⟩

/-- The five matchers that are asked. -/
def mOf (n v : ByteArray) (P : Nat) (g : Nat) : Mat := if g = 0 then (n, 1, v) else if g = 1 then (n, 2, v) else if g = 2 then (n, 3, v) else if g = 3 then (n, 3, v.extract 0 P) else (n, 4, ⟨#[]⟩)
theorem mOf_fit {n v : ByteArray} {P : Nat} {way : Int} (h : FitM (n, way, v)) (hv : v.size ≤ 16) (hx : (v.extract 0 P).size ≤ 16) : ∀ g, g < 5 → FitM (mOf n v P g) := fun g _ => by
  unfold mOf FitM at *
  have h1 := h.1
  have h0 : (⟨#[]⟩ : ByteArray).size = 0 := rfl
  split
  · exact ⟨h1, by simp only; omega⟩
  · split
    · exact ⟨h1, by simp only; omega⟩
    · split
      · exact ⟨h1, by simp only; omega⟩
      · split
        · exact ⟨h1, by simp only; omega⟩
        · exact ⟨h1, by simp only; omega⟩
theorem build_one {o : Oper} {b : Act} {w : World} {K : Act → World → Prop} {Q : Exit → Act → World → Prop} (src : Tmp) (ho : o.op = .buildSlice 40 1 #[(0, .tmp src)]) (m : Mat) (hx : b.eval (.tmp src) = .agg (matV m).toArray)
    (h : K (b.put o.dst (.slice (some ⟨w.heap.size, 0, none⟩) 1 1)) (w.alloc (.cells (matV m).toArray 42))) : o.wp Try.prog b w K Q := by
  refine wp_of_run _ ?_ h
  unfold execOp
  have hx' : b.tmps[src]?.getD undef = .agg (matV m).toArray := by simpa [Act.eval] using hx
  unfold matV at hx' ⊢
  simp [go_sem, ho, hx']
theorem mats_one {w : World} {b : Nat} {m : Mat} (h : Blk w b 42 (matV m).toArray) : Mats w w.heap.size (some ⟨b, 0, none⟩) [m] :=
  ⟨rfl, fun _ => ⟨b, 0, rfl, h.lt, fun j u hu => by rw [Nat.zero_add, h.cell j, ← hu]; simp [matCells]⟩⟩
theorem below_undrew {w w' : World} (h : Below ({ w with drawn := w.drawn + 1 } : World).heap.size { w with drawn := w.drawn + 1 } w') : Below w.heap.size w w' := ⟨h.os, h.tape, h.output, h.size, h.block⟩

/-! ### The law -/
theorem meets_one {l : List Lab} {m : Mat} (hr : rightB l = true) (ha : asksB m = true) : meetsB l [m] = oneB l m := by
  have h : meetsP l [m] := fun i hi => by
    obtain rfl : i = 0 := by simpa using hi
    exact ha
  unfold meetsB okK
  rw [dct h, hr]
  simp [matAt]
theorem meets_two {l : List Lab} {m k : Mat} (hr : rightB l = true) (ha : asksB m = true) (hk : asksB k = true) : meetsB l [m, k] = (oneB l m && oneB l k) := by
  have h : meetsP l [m, k] := fun i hi => by
    have : i = 0 ∨ i = 1 := by have : i < 2 := by simpa using hi
                               omega
    rcases this with rfl | rfl
    · exact ha
    · exact hk
  unfold meetsB okK
  rw [dct h, hr]
  simp [matAt, List.range_succ]
theorem meets_nil {l : List Lab} (hr : rightB l = true) : meetsB l [] = true := by
  have h : meetsP l [] := fun i hi => by simp at hi
  unfold meetsB okK
  rw [dct h, hr]
  rfl
theorem asks_mOf {n v : ByteArray} {way : Int} {P : Nat} (h : asksB (n, way, v) = true) (hv : v.size ≤ 16) (hx : (v.extract 0 P).size ≤ 16) (g : Nat) : asksB (mOf n v P g) = true := by
  have h1 : asksP (n, way, v) := of_decide_eq_true h
  have h2 := h1.1
  refine decide_eq_true ?_
  unfold mOf
  split
  · exact ⟨h2, by simp, by simp, hv, by simp⟩
  · split
    · exact ⟨h2, by simp, by simp, hv, by simp⟩
    · split
      · exact ⟨h2, by simp, by simp, hv, by simp⟩
      · split
        · exact ⟨h2, by simp, by simp, hx, by simp⟩
        · exact ⟨h2, by simp, by simp, by show (⟨#[]⟩ : ByteArray).size ≤ 16; decide, .inr rfl⟩
theorem pref_cut {u v : ByteArray} {P : Nat} (h : prefB u v = true) : prefB u (v.extract 0 P) = true := by
  unfold prefB Lib.hasPrefix at h ⊢
  rw [List.isPrefixOf_iff_prefix] at h ⊢
  refine List.IsPrefix.trans ?_ h
  rw [ByteArray.data_extract, Array.toList_extract]
  simp only [List.extract_eq_take_drop, List.drop_zero]
  exact List.take_prefix _ _
theorem pref_self (u : ByteArray) : prefB u u = true := by
  unfold prefB Lib.hasPrefix
  rw [List.isPrefixOf_iff_prefix]
  exact List.prefix_refl _
theorem turns {l : List Lab} {n v : ByteArray} {way : Int} {P : Nat} (hr : rightB l = true) (ha : asksB (n, way, v) = true) (hv : v.size ≤ 16) (hx : (v.extract 0 P).size ≤ 16) :
    meetsB l [] = true ∧ ∃ a c d e : Bool, meetsB l [mOf n v P 0] = a ∧ meetsB l [mOf n v P 1] = (!a) ∧ meetsB l [mOf n v P 2] = c ∧ meetsB l [mOf n v P 3] = d ∧ meetsB l [mOf n v P 4] = e ∧ meetsB l [mOf n v P 0, mOf n v P 4] = a ∧
      ((a = true ∧ c = true ∧ d = true ∧ e = true) ∨ (a = false ∧ c = true ∧ d = true ∧ e = true) ∨ (a = false ∧ c = false ∧ d = true ∧ e = true) ∨ (a = false ∧ c = false ∧ d = false ∧ e = true) ∨ (a = false ∧ c = false ∧ d = false ∧ e = false)) := by
  have A := fun g => asks_mOf (P := P) ha hv hx g
  refine ⟨meets_nil hr, _, _, _, _, rfl, ?_, rfl, rfl, rfl, ?_, ?_⟩
  · rw [meets_one hr (A 0), meets_one hr (A 1)]
    rfl
  · rw [meets_two hr (A 0) (A 4), meets_one hr (A 0)]
    show (eqO (getB l n) v && (getB l n).isSome) = eqO (getB l n) v
    cases getB l n <;> simp [eqO]
  · rw [meets_one hr (A 0), meets_one hr (A 2), meets_one hr (A 3), meets_one hr (A 4)]
    show (eqO (getB l n) v = true ∧ prefO (getB l n) v = true ∧ prefO (getB l n) (v.extract 0 P) = true ∧ (getB l n).isSome = true) ∨ (eqO (getB l n) v = false ∧ prefO (getB l n) v = true ∧ prefO (getB l n) (v.extract 0 P) = true ∧ (getB l n).isSome = true) ∨ (eqO (getB l n) v = false ∧ prefO (getB l n) v = false ∧ prefO (getB l n) (v.extract 0 P) = true ∧ (getB l n).isSome = true) ∨ (eqO (getB l n) v = false ∧ prefO (getB l n) v = false ∧ prefO (getB l n) (v.extract 0 P) = false ∧ (getB l n).isSome = true) ∨ (eqO (getB l n) v = false ∧ prefO (getB l n) v = false ∧ prefO (getB l n) (v.extract 0 P) = false ∧ (getB l n).isSome = false)
    cases getB l n with
    | none => exact .inr (.inr (.inr (.inr ⟨rfl, rfl, rfl, rfl⟩)))
    | some u =>
      simp only [eqO, prefO, Option.isSome_some, and_true, and_false, or_false]
      by_cases e : u = v
      · subst e
        exact .inl ⟨by simp, pref_self u, pref_cut (pref_self u)⟩
      · rw [dcf e]
        cases h1 : prefB u v
        · cases h2 : prefB u (v.extract 0 P)
          · simp
          · simp
        · have := pref_cut (P := P) h1
          simp [this]
theorem mats_two {w : World} {b : Nat} {m k : Mat} (h : Blk w b 42 (matV m ++ matV k).toArray) : Mats w w.heap.size (some ⟨b, 0, none⟩) [m, k] :=
  ⟨rfl, fun _ => ⟨b, 0, rfl, h.lt, fun j u hu => by rw [Nat.zero_add, h.cell j, ← hu]; simp [matCells]⟩⟩

/-! ### The four boxes of region 5, made in any order -/
def upB (c : Nat → Bool) (i : Nat) : Nat → Bool := fun j => if j = i then true else c j
def upV (vs : Nat → Value) (i : Nat) (v : Value) : Nat → Value := fun j => if j = i then v else vs j
theorem upB_at {c : Nat → Bool} {i : Nat} : upB c i i = true := by simp [upB]
theorem upB_ne {c : Nat → Bool} {i j : Nat} (h : j ≠ i) : upB c i j = c j := by simp [upB, h]
theorem upV_at {vs : Nat → Value} {i : Nat} {v : Value} : upV vs i v i = v := by simp [upV]
theorem upV_ne {vs : Nat → Value} {i j : Nat} {v : Value} (h : j ≠ i) : upV vs i v j = vs j := by simp [upV, h]
structure Four (wc : World) (T : TypeId) (m z : Array Value) (c : Nat → Bool) (vs : Nat → Value) (w : World) : Prop where
  below : Below wc.heap.size wc w
  load : ∀ i, i < 4 → c i = true → vs i = .agg m
  box : ∀ i, 4 ≤ i → i < 8 → c i = true → ∃ b, vs i = .pointer (some ⟨b, 0, none⟩) ∧ wc.heap.size ≤ b ∧ Blk w b T (if c (i + 4) = true then m else z)
  apart : ∀ i j, 4 ≤ i → i < j → j < 8 → c i = true → c j = true → vs i ≠ vs j
  first : ∀ i, 4 ≤ i → i < 8 → c (i + 4) = true → c i = true
section
variable {wc w : World} {T : TypeId} {m z : Array Value} {c : Nat → Bool} {vs : Nat → Value}
theorem Four.start (wc : World) (T : TypeId) (m z : Array Value) : Four wc T m z (fun _ => false) (fun _ => undef) { wc with drawn := wc.drawn + 1 } :=
  ⟨below_drewN_ (Below.refl _ _) 1, fun _ _ h => (by cases h), fun _ _ _ h => (by cases h), fun _ _ _ _ _ h => (by cases h), fun _ _ _ h => (by cases h)⟩
theorem Four.loaded (h : Four wc T m z c vs w) {i : Nat} (hi : i < 4) : Four wc T m z (upB c i) (upV vs i (.agg m)) w where
  below := h.below
  load j hj hc := by
    by_cases e : j = i
    · subst e; exact upV_at
    · rw [upV_ne e]; exact h.load j hj (by rwa [upB_ne e] at hc)
  box j h4 h8 hc := by
    rw [upV_ne (by omega), upB_ne (by omega)]
    rw [upB_ne (by omega)] at hc
    exact h.box j h4 h8 hc
  apart j k h4 hjk h8 hj hk := by
    rw [upB_ne (by omega)] at hj hk
    rw [upV_ne (by omega), upV_ne (by omega)]
    exact h.apart j k h4 hjk h8 hj hk
  first j h4 h8 hc := by
    rw [upB_ne (by omega)] at hc ⊢
    exact h.first j h4 h8 hc
theorem Four.made (h : Four wc T m z c vs w) {i : Nat} (h4 : 4 ≤ i) (h8 : i < 8) (hci : c i = false) : Four wc T m z (upB c i) (upV vs i (.pointer (some ⟨w.heap.size, 0, none⟩))) (w.alloc (.cells z T)) where
  below := h.below.alloc h.below.size _
  load j hj hc := by
    rw [upV_ne (by omega)]
    exact h.load j hj (by rwa [upB_ne (by omega)] at hc)
  box j g4 g8 hc := by
    rw [upB_ne (show j + 4 ≠ i by omega)]
    by_cases e : j = i
    · subst e
      refine ⟨w.heap.size, upV_at, h.below.size, ?_⟩
      have : c (j + 4) = false := by
        cases hq : c (j + 4)
        · rfl
        · rw [h.first j g4 g8 hq] at hci; cases hci
      rw [this, if_neg (by simp)]
      exact Blk.new _ _ _
    · rw [upB_ne e] at hc
      obtain ⟨b, h1, h2, h3⟩ := h.box j g4 g8 hc
      exact ⟨b, by rw [upV_ne e]; exact h1, h2, h3.alloc _⟩
  apart j k g4 hjk g8 hj hk := by
    by_cases e : j = i
    · subst e
      rw [upV_at, upV_ne (by omega)]
      rw [upB_ne (by omega)] at hk
      obtain ⟨b, h1, h2, h3⟩ := h.box k (by omega) g8 hk
      rw [h1]
      have := h3.lt
      intro e; injection e with e; injection e with e; injection e with e; omega
    · by_cases e2 : k = i
      · subst e2
        rw [upV_at, upV_ne (by omega)]
        rw [upB_ne (by omega)] at hj
        obtain ⟨b, h1, h2, h3⟩ := h.box j g4 (by omega) hj
        rw [h1]
        have := h3.lt
        intro e; injection e with e; injection e with e; injection e with e; omega
      · rw [upB_ne e] at hj
        rw [upB_ne e2] at hk
        rw [upV_ne e, upV_ne e2]
        exact h.apart j k g4 hjk g8 hj hk
  first j g4 g8 hc := by
    rw [upB_ne (by omega)] at hc
    have := h.first j g4 g8 hc
    by_cases e : j = i
    · subst e; exact upB_at
    · rw [upB_ne e]; exact this
theorem Four.put (h : Four wc T m z c vs w) {w' : World} {b i : Nat} (h4 : 4 ≤ i) (h8 : i < 8) (hci : c i = true) (hb : vs i = .pointer (some ⟨b, 0, none⟩)) (ho : Only b w w') (hblk : Blk w' b T m) : Four wc T m z (upB c (i + 4)) (upV vs (i + 4) undef) w' where
  below := by
    obtain ⟨b', h1, h2, -⟩ := h.box i h4 h8 hci
    rw [hb] at h1
    injection h1 with h1; injection h1 with h1; injection h1 with h1
    exact h.below.trans (ho.below (by omega) h.below.size)
  load j hj hc := by
    rw [upV_ne (by omega)]
    exact h.load j hj (by rwa [upB_ne (by omega)] at hc)
  box j g4 g8 hc := by
    rw [upB_ne (by omega)] at hc
    rw [upV_ne (by omega)]
    obtain ⟨b', h1, h2, h3⟩ := h.box j g4 g8 hc
    refine ⟨b', h1, h2, ?_⟩
    by_cases e : j = i
    · subst e
      rw [upB_at, if_pos rfl]
      rw [hb] at h1
      injection h1 with h1; injection h1 with h1; injection h1 with h1
      rw [← h1]; exact hblk
    · rw [upB_ne (by omega)]
      refine ho.blk h3 (fun e' => ?_)
      subst e'
      rcases Nat.lt_or_ge j i with hl | hl
      · exact h.apart j i g4 hl h8 hc hci (h1.trans hb.symm)
      · exact h.apart i j h4 (by omega) g8 hci hc (hb.trans h1.symm)
  apart j k g4 hjk g8 hj hk := by
    rw [upB_ne (by omega)] at hj hk
    rw [upV_ne (by omega), upV_ne (by omega)]
    exact h.apart j k g4 hjk g8 hj hk
  first j g4 g8 hc := by
    rw [upB_ne (by omega)]
    by_cases e : j = i
    · subst e; exact hci
    · rw [upB_ne (by omega)] at hc
      exact h.first j g4 g8 hc
end
theorem blk_set3 {w : World} {g : Nat} {t : TypeId} {z0 z1 z2 v0 v1 v2 : Value} (h : Blk w g t #[z0, z1, z2]) : Blk (w.setCells g 0 [v0, v1, v2]) g t #[v0, v1, v2] := by
  have h' := ((h.set_ 0 v0).set_ 1 v1).set_ 2 v2
  simp only [List.setIfInBounds_toArray, List.set_cons_zero, List.set_cons_succ] at h'
  exact h'
theorem only_set3 {w : World} {g : Nat} {v0 v1 v2 : Value} : Only g w (w.setCells g 0 [v0, v1, v2]) :=
  (((Only.refl g w).setCell (p := ⟨g, 0, none⟩) (.inl rfl) v0).setCell (p := ⟨g, 1, none⟩) (.inl rfl) v1).setCell (p := ⟨g, 2, none⟩) (.inl rfl) v2
theorem there3 {w : World} {g : Nat} {t : TypeId} {z0 z1 z2 : Value} (h : Blk w g t #[z0, z1, z2]) : w.there g 0 3 := fun j hj => by
  rw [Nat.zero_add, h.cell j]
  refine ⟨?_, h.frozen j⟩
  have : j = 0 ∨ j = 1 ∨ j = 2 := by omega
  rcases this with rfl | rfl | rfl <;> rfl

set_option maxRecDepth 100000 in
set_option maxHeartbeats 3200000 in
theorem body (w : World) {B c : Nat} {A : Option Addr} {l : List Lab} (h : Labs w B A l) (hB : B ≤ w.heap.size) (hf : Fit l) (hn : l.length ≤ 4398046511104)
    (n : ByteArray) (way : Int) (v : ByteArray) (k : Int) (hfm : FitM (n, way, v)) (hq : fewB l = true) (hr : rightB l = true) (ha : asksB (n, way, v) = true) :
    Calls Try.prog 7 #[.slice A l.length c, .agg #[.string n, .int .i64 way, .string v], .int .i64 k] w fun e w' => e = .returned (.bool true) ∧ Below w.heap.size w w' := by
  have Hf := Lib.hid hf
  clear hf
  have hn2 : l.length ≤ 140737488355328 := by omega
  have HA := fun W => Lib.hid (asks_calls W n way v hfm)
  rw [ha] at HA
  have HA0 := Lib.hid ha
  have HQ := Lib.hid hq
  have HR := Lib.hid hr
  have HW : Hid (way = 4 → v = ⟨#[]⟩) := Lib.hid fun h4 => by
    have h5 : asksP (n, way, v) := of_decide_eq_true ha
    have h6 := h5.2.2.2.2
    have h0 : v.size = 0 := by rcases h6 with h6 | h6; exact absurd h4 h6; exact h6
    refine ByteArray.ext (Array.toList_inj.1 ?_)
    have : v.data.toList.length = 0 := by rw [Array.length_toList]; exact h0
    exact List.eq_nil_of_length_eq_zero this
  have hv16 : v.size ≤ 16 := by
    have h5 : asksP (n, way, v) := of_decide_eq_true ha
    exact h5.2.2.2.1
  clear ha hq hr
  go_enter Try.func7, Try.ntmps7
  go_wp2_with fail
  have hb0 := (Below.refl w.heap.size w).alloc (Nat.le_refl _) (.cells #[.string n, .int .i64 way, .string v] 42)
  have hx0 := Blk.new w 42 #[.string n, .int .i64 way, .string v]
  refine (lives_calls _).mono ?_
  rintro e w1 ⟨rfl, hb1⟩
  have hx1 := hx0.below hb1 hx0.lt
  have hb01 := hb0.trans (hb1.mono (by simp))
  have h1 := h.below (hb01.mono hB)
  have s1 := hx1.lt
  clear hb0 hx0 hb1
  go_wp2_with fail
  refine (few_calls w1 h1 (by omega) Hf.out hn2).mono ?_
  rw [HQ.out]
  rintro e w2 ⟨rfl, hb2⟩
  have hb02 := hb01.trans (hb2.mono (by omega))
  have hx2 := hx1.below hb2 s1
  have s2 := hx2.lt
  go_wp2_with fail
  refine (right_calls w2 (h1.below (hb2.mono (by omega))) (by omega) Hf.out hn2).mono ?_
  rw [HR.out]
  rintro e w3 ⟨rfl, hb3⟩
  have hb03 := hb02.trans (hb3.mono (by omega))
  have hx3 := hx2.below hb3 s2
  have s3 := hx3.lt
  have y0 := hx3.cell 0
  have y1 := hx3.cell 1
  have y2 := hx3.cell 2
  simp only [List.getElem?_toArray, List.getElem?_cons_zero, List.getElem?_cons_succ] at y0 y1 y2
  go_wp2_with fail
  refine (HA _).out.mono ?_
  rintro e w4 ⟨rfl, hb4⟩
  have hb04 := hb03.trans (hb4.mono (by omega))
  have hx4 := hx3.below hb4 s3
  have s4 := hx4.lt
  have h4 := h.below (hb04.mono hB)
  have h0 := h
  clear h
  clear hx3 hx2 hx1 hb03 hb02 hb01 hb2 hb3 hb4 y0 y1 y2 h1
  have y0 := hx4.cell 0
  have y1 := hx4.cell 1
  have y2 := hx4.cell 2
  have f2 := hx4.frozen 2
  simp only [List.getElem?_toArray, List.getElem?_cons_zero, List.getElem?_cons_succ] at y0 y1 y2
  go_upto_if 37 with (fail)
  go_cut [38] (fun _ wx => Blk wx w.heap.size 42 #[.string n, .int .i64 way, .string v] ∧ Below w.heap.size w wx)
  case first =>
    by_cases hw : way = 4
    · obtain rfl := HW.out hw
      subst hw
      go_wp2
      go_meet
      case rel => exact ⟨hx4.set_ 2 _, hb04.setCell (by simp) _⟩
    · have q := eqf hw
      clear hw
      go_wp2
      go_meet
      case rel => exact ⟨hx4, hb04⟩
  case rest =>
    obtain ⟨hx, hb0⟩ := hcut
    rename_i wr
    clear hx4 hb04 y0 y1 y2 f2 h4 s4
    have hs := hx.lt
    have hL := h0.below (hb0.mono hB)
    go_wp2_with fail
    refine wp_region_steps (by kernel_rfl) (by kernel_rfl) (Four wc 42 #[.string n, .int .i64 way, .string v] #[.string ⟨#[]⟩, .int .i64 0, .string ⟨#[]⟩]) (Four.start _ _ _ _) ?_ [some 39, some 40, some 41, some 42, some 7, some 8, some 9, some 10, none, none, none, none] (by kernel_rfl) ?_
    · intro i o ho c vs w' b hS hci hbd hev hout
      have e4 := hout 4 (by kernel_rfl)
      have hblk := hx.below hS.below hs
      rcases i with _ | _ | _ | _ | _ | _ | _ | _ | _ | _ | _ | _ | i
      · cases ho
        exact wp_load_row 42 (.tmp 4) rfl w.heap.size e4 42 _ (0, 0) _ hblk Try.underlying42 rfl (by kernel_rfl) ⟨_, rfl, hS.loaded (by omega)⟩
      · cases ho
        exact wp_load_row 42 (.tmp 4) rfl w.heap.size e4 42 _ (0, 0) _ hblk Try.underlying42 rfl (by kernel_rfl) ⟨_, rfl, hS.loaded (by omega)⟩
      · cases ho
        exact wp_load_row 42 (.tmp 4) rfl w.heap.size e4 42 _ (0, 0) _ hblk Try.underlying42 rfl (by kernel_rfl) ⟨_, rfl, hS.loaded (by omega)⟩
      · cases ho
        exact wp_load_row 42 (.tmp 4) rfl w.heap.size e4 42 _ (0, 0) _ hblk Try.underlying42 rfl (by kernel_rfl) ⟨_, rfl, hS.loaded (by omega)⟩
      · cases ho
        refine wp_of_run (.pointer (some ⟨w'.heap.size, 0, none⟩)) (w' := w'.alloc (.cells #[.string ⟨#[]⟩, .int .i64 0, .string ⟨#[]⟩] 42)) (by simp [go_sem]) ⟨_, rfl, hS.made (by omega) (by omega) hci⟩
      · cases ho
        refine wp_of_run (.pointer (some ⟨w'.heap.size, 0, none⟩)) (w' := w'.alloc (.cells #[.string ⟨#[]⟩, .int .i64 0, .string ⟨#[]⟩] 42)) (by simp [go_sem]) ⟨_, rfl, hS.made (by omega) (by omega) hci⟩
      · cases ho
        refine wp_of_run (.pointer (some ⟨w'.heap.size, 0, none⟩)) (w' := w'.alloc (.cells #[.string ⟨#[]⟩, .int .i64 0, .string ⟨#[]⟩] 42)) (by simp [go_sem]) ⟨_, rfl, hS.made (by omega) (by omega) hci⟩
      · cases ho
        refine wp_of_run (.pointer (some ⟨w'.heap.size, 0, none⟩)) (w' := w'.alloc (.cells #[.string ⟨#[]⟩, .int .i64 0, .string ⟨#[]⟩] 42)) (by simp [go_sem]) ⟨_, rfl, hS.made (by omega) (by omega) hci⟩
      · cases ho
        have c4 := hbd 4 (by kernel_rfl)
        have c0 := hbd 0 (by kernel_rfl)
        obtain ⟨b1, hb1, -, hbx⟩ := hS.box 4 (by omega) (by omega) c4
        rw [if_neg (by rw [hci]; simp)] at hbx
        exact wp_store_mid 42 (.tmp 7) (.tmp 39) rfl b1 0 #[.string n, .int .i64 way, .string v] ((hev 4 7 c4 rfl).trans hb1) ((hev 0 39 c0 rfl).trans (hS.load 0 (by omega) c0)) (there3 hbx) (by kernel_rfl) (by simp [Value.oneCell']) ⟨_, rfl, hS.put (i := 4) (by omega) (by omega) c4 hb1 only_set3 (blk_set3 hbx)⟩
      · cases ho
        have c4 := hbd 5 (by kernel_rfl)
        have c0 := hbd 1 (by kernel_rfl)
        obtain ⟨b1, hb1, -, hbx⟩ := hS.box 5 (by omega) (by omega) c4
        rw [if_neg (by rw [hci]; simp)] at hbx
        exact wp_store_mid 42 (.tmp 8) (.tmp 40) rfl b1 0 #[.string n, .int .i64 way, .string v] ((hev 5 8 c4 rfl).trans hb1) ((hev 1 40 c0 rfl).trans (hS.load 1 (by omega) c0)) (there3 hbx) (by kernel_rfl) (by simp [Value.oneCell']) ⟨_, rfl, hS.put (i := 5) (by omega) (by omega) c4 hb1 only_set3 (blk_set3 hbx)⟩
      · cases ho
        have c4 := hbd 6 (by kernel_rfl)
        have c0 := hbd 2 (by kernel_rfl)
        obtain ⟨b1, hb1, -, hbx⟩ := hS.box 6 (by omega) (by omega) c4
        rw [if_neg (by rw [hci]; simp)] at hbx
        exact wp_store_mid 42 (.tmp 9) (.tmp 41) rfl b1 0 #[.string n, .int .i64 way, .string v] ((hev 6 9 c4 rfl).trans hb1) ((hev 2 41 c0 rfl).trans (hS.load 2 (by omega) c0)) (there3 hbx) (by kernel_rfl) (by simp [Value.oneCell']) ⟨_, rfl, hS.put (i := 6) (by omega) (by omega) c4 hb1 only_set3 (blk_set3 hbx)⟩
      · cases ho
        have c4 := hbd 7 (by kernel_rfl)
        have c0 := hbd 3 (by kernel_rfl)
        obtain ⟨b1, hb1, -, hbx⟩ := hS.box 7 (by omega) (by omega) c4
        rw [if_neg (by rw [hci]; simp)] at hbx
        exact wp_store_mid 42 (.tmp 10) (.tmp 42) rfl b1 0 #[.string n, .int .i64 way, .string v] ((hev 7 10 c4 rfl).trans hb1) ((hev 3 42 c0 rfl).trans (hS.load 3 (by omega) c0)) (there3 hbx) (by kernel_rfl) (by simp [Value.oneCell']) ⟨_, rfl, hS.put (i := 7) (by omega) (by omega) c4 hb1 only_set3 (blk_set3 hbx)⟩
      · cases ho
    · intro cc vs w5 hS hall
      have hc : ∀ j, j < 12 → cc j = true := hall
      have v0 := hS.load 0 (by omega) (hc 0 (by omega))
      have v1 := hS.load 1 (by omega) (hc 1 (by omega))
      have v2 := hS.load 2 (by omega) (hc 2 (by omega))
      have v3 := hS.load 3 (by omega) (hc 3 (by omega))
      obtain ⟨b7, p7, g7, x7⟩ := hS.box 4 (by omega) (by omega) (hc 4 (by omega))
      obtain ⟨b8, p8, g8, x8⟩ := hS.box 5 (by omega) (by omega) (hc 5 (by omega))
      obtain ⟨b9, p9, g9, x9⟩ := hS.box 6 (by omega) (by omega) (hc 6 (by omega))
      obtain ⟨b10, p10, g10, x10⟩ := hS.box 7 (by omega) (by omega) (hc 7 (by omega))
      have nq : ∀ i j (a b : Nat), 4 ≤ i → i < j → j < 8 → vs i = .pointer (some ⟨a, 0, none⟩) → vs j = .pointer (some ⟨b, 0, none⟩) → a ≠ b := fun i j a b h1 h2 h3 ha hb e => hS.apart i j h1 h2 h3 (hc _ (by omega)) (hc _ (by omega)) (by rw [ha, hb, e])
      have n78 := nq 4 5 _ _ (by omega) (by omega) (by omega) p7 p8
      have n79 := nq 4 6 _ _ (by omega) (by omega) (by omega) p7 p9
      have n710 := nq 4 7 _ _ (by omega) (by omega) (by omega) p7 p10
      have n89 := nq 5 6 _ _ (by omega) (by omega) (by omega) p8 p9
      have n810 := nq 5 7 _ _ (by omega) (by omega) (by omega) p8 p10
      have n910 := nq 6 7 _ _ (by omega) (by omega) (by omega) p9 p10
      rw [if_pos (hc 8 (by omega))] at x7
      rw [if_pos (hc 9 (by omega))] at x8
      rw [if_pos (hc 10 (by omega))] at x9
      rw [if_pos (hc 11 (by omega))] at x10
      have hbel := hS.below
      simp only [putL, v0, v1, v2, v3, p7, p8, p9, p10]
      clear nq v0 v1 v2 v3 p7 p8 p9 p10 hc hall hS
      have y71 := x7.cell 1
      have y81 := x8.cell 1
      have y90 := x9.cell 0
      have y91 := x9.cell 1
      have y92 := x9.cell 2
      have y101 := x10.cell 1
      have y102 := x10.cell 2
      have f71 := x7.frozen 1
      have f81 := x8.frozen 1
      have f91 := x9.frozen 1
      have f101 := x10.frozen 1
      have f102 := x10.frozen 2
      simp only [List.getElem?_toArray, List.getElem?_cons_zero, List.getElem?_cons_succ] at y71 y81 y90 y91 y92 y101 y102
      go_wp2_with fail
      have z7 := (((((x7.set_ 1 (.int .i64 1)).far (p := ⟨b8, 1, none⟩) n78 (.int .i64 2)).far (p := ⟨b9, 1, none⟩) n79 (.int .i64 3)).far (p := ⟨b10, 1, none⟩) n710 (.int .i64 4)).far (p := ⟨b10, 2, none⟩) n710 (.string ⟨#[]⟩)).alloc (.cells #[.string n, .int .i64 3, .string v] 42)
      have z8 := (((((x8.far (p := ⟨b7, 1, none⟩) n78.symm (.int .i64 1)).set_ 1 (.int .i64 2)).far (p := ⟨b9, 1, none⟩) n89 (.int .i64 3)).far (p := ⟨b10, 1, none⟩) n810 (.int .i64 4)).far (p := ⟨b10, 2, none⟩) n810 (.string ⟨#[]⟩)).alloc (.cells #[.string n, .int .i64 3, .string v] 42)
      have z9 := (((((x9.far (p := ⟨b7, 1, none⟩) n79.symm (.int .i64 1)).far (p := ⟨b8, 1, none⟩) n89.symm (.int .i64 2)).set_ 1 (.int .i64 3)).far (p := ⟨b10, 1, none⟩) n910 (.int .i64 4)).far (p := ⟨b10, 2, none⟩) n910 (.string ⟨#[]⟩)).alloc (.cells #[.string n, .int .i64 3, .string v] 42)
      have z10 := (((((x10.far (p := ⟨b7, 1, none⟩) n710.symm (.int .i64 1)).far (p := ⟨b8, 1, none⟩) n810.symm (.int .i64 2)).far (p := ⟨b9, 1, none⟩) n910.symm (.int .i64 3)).set_ 1 (.int .i64 4)).set_ 2 (.string ⟨#[]⟩)).alloc (.cells #[.string n, .int .i64 3, .string v] 42)
      have z11 := Blk.new (((((w5.setCell ⟨b7, 1, none⟩ (.int .i64 1)).setCell ⟨b8, 1, none⟩ (.int .i64 2)).setCell ⟨b9, 1, none⟩ (.int .i64 3)).setCell ⟨b10, 1, none⟩ (.int .i64 4)).setCell ⟨b10, 2, none⟩ (.string ⟨#[]⟩)) 42 #[.string n, .int .i64 3, .string v]
      have hbl := (((((hbel.setCell (p := ⟨b7, 1, none⟩) g7 (.int .i64 1)).setCell (p := ⟨b8, 1, none⟩) g8 (.int .i64 2)).setCell (p := ⟨b9, 1, none⟩) g9 (.int .i64 3)).setCell (p := ⟨b10, 1, none⟩) g10 (.int .i64 4)).setCell (p := ⟨b10, 2, none⟩) g10 (.string ⟨#[]⟩)).alloc (by simpa using hbel.size) (.cells #[.string n, .int .i64 3, .string v] 42)
      simp only [List.setIfInBounds_toArray, List.set_cons_zero, List.set_cons_succ, World.size_setCell] at z7 z8 z9 z10 z11
      have m7 := x7.lt
      have m8 := x8.lt
      have m9 := x9.lt
      have m10 := x10.lt
      have g11 : wc.heap.size ≤ w5.heap.size := hbel.size
      generalize w5.heap.size = b11 at *
      clear x7 x8 x9 x10 y71 y81 y90 y91 y92 y101 y102 f71 f81 f91 f101 f102 hbel
      generalize (((((w5.setCell ⟨b7, 1, none⟩ (.int .i64 1)).setCell ⟨b8, 1, none⟩ (.int .i64 2)).setCell ⟨b9, 1, none⟩ (.int .i64 3)).setCell ⟨b10, 1, none⟩ (.int .i64 4)).setCell ⟨b10, 2, none⟩ (.string ⟨#[]⟩)).alloc (.cells #[.string n, .int .i64 3, .string v] 42) = w6 at *
      obtain ⟨P, hP, hPv⟩ := cut_in k (s := v.size + 1) (by omega) (by omega)
      have e0 : ((v.size + 1 : Nat) : Int) = (v.size : Int) + 1 := by omega
      rw [e0] at hP
      have e1 : IntKind.i64.wrap ((v.size : Int) + 1) = (v.size : Int) + 1 := IntWalk.i64_in _ (by omega)
      have e2 : IntKind.u64.wrap ((v.size : Int) + 1) = (v.size : Int) + 1 := by rw [IntKind.wrap_u64]; omega
      have e3 : ((v.size : Int) + 1 == 0) = false := eqf (by omega)
      have e7 : ¬ (v.size : Int) + 1 = 0 := by omega
      have e4 : (IntKind.u64.wrap k).tmod ((v.size : Int) + 1) = (P : Int) := hP
      have e5 : IntKind.u64.wrap (P : Int) = (P : Int) := by rw [IntKind.wrap_u64]; omega
      have e6 : IntKind.i64.wrap (P : Int) = (P : Int) := IntWalk.i64_in _ (by omega)
      have i1 : (P : Int) ≤ (v.size : Int) := by omega
      have i2 : (0 : Int) ≤ (P : Int) := by omega
      have y92 := z9.cell 2
      have y112 := z11.cell 2
      have f112 := z11.frozen 2
      simp only [List.getElem?_toArray, List.getElem?_cons_zero, List.getElem?_cons_succ] at y92 y112
      go_still_tail 12, (by kernel_rfl)
      go_wp2_with fail
      have x7 := (z7.far (p := ⟨b11, 2, none⟩) (show b7 ≠ b11 by omega) (.string (v.extract 0 P))).drew
      have x8 := (z8.far (p := ⟨b11, 2, none⟩) (show b8 ≠ b11 by omega) (.string (v.extract 0 P))).drew
      have x9 := (z9.far (p := ⟨b11, 2, none⟩) (show b9 ≠ b11 by omega) (.string (v.extract 0 P))).drew
      have x10 := (z10.far (p := ⟨b11, 2, none⟩) (show b10 ≠ b11 by omega) (.string (v.extract 0 P))).drew
      have x11 := (z11.set_ 2 (.string (v.extract 0 P))).drew
      have hb7 : Below wc.heap.size wc (w6.setCell ⟨b11, 2, none⟩ (.string (v.extract 0 P))).drew := below_drewN_ (hbl.setCell (p := ⟨b11, 2, none⟩) g11 (.string (v.extract 0 P))) 1
      simp only [List.setIfInBounds_toArray, List.set_cons_zero, List.set_cons_succ] at x11
      clear z7 z8 z9 z10 z11 y92 y112 f112 e1 e2 e3 e4 e5 e6 e7 hP hbl i1 i2 m7 m8 m9 m10
      generalize (w6.setCell ⟨b11, 2, none⟩ (.string (v.extract 0 P))).drew = w7 at *
      have hL7 := hL.below (hb7.mono (by have := hb0.size; omega))
      have hs7 := hb7.size
      have hsB : B ≤ w7.heap.size := by have := hb0.size; omega
      have hvx : (v.extract 0 P).size ≤ 16 := by rw [ByteArray.size_extract]; omega
      have HMS : Hid (∀ g, g < 5 → FitM (mOf n v P g)) := Lib.hid (mOf_fit hfm hv16 hvx)
      have HCM : Hid (∀ (g : Nat) (W : World) (b : Nat), g < 5 → Below w7.heap.size w7 W → Blk W b 42 (matV (mOf n v P g)).toArray → Calls Try.prog 23 #[.slice A l.length c, .slice (some ⟨b, 0, none⟩) 1 1] W fun e W' => e = .returned (.bool (meetsB l [mOf n v P g])) ∧ Below W.heap.size W W') := Lib.hid fun g W b hg hW hblk =>
        meets_calls W (hL7.below (hW.mono hsB)) (by have := hW.size; omega) (mats_one hblk) (Nat.le_refl _) Hf.out (fun m hm => by simp at hm; subst hm; exact HMS.out g hg) hn (by simp)
      have hent : ∀ args W, (callFunc 23 args).run Try.prog W = .ok (.enter 23 args) W := enters_of Try.func23 (by kernel_rfl) rfl
      refine wp_region_grows (by kernel_rfl) (by kernel_rfl) (fun x y => Below x.heap.size x y) (fun x => Below.refl _ _) (fun h1 h2 => h1.trans (h2.mono h1.size)) (fun i u W => (i % 4 = 0 → i < 20 → u = .slice A l.length c) ∧ (i % 4 = 1 → i < 20 → u = .agg (matV (mOf n v P (i / 4))).toArray) ∧ (i % 4 = 2 → i < 20 → ∃ b, u = .slice (some ⟨b, 0, none⟩) 1 1 ∧ Blk W b 42 (matV (mOf n v P (i / 4))).toArray) ∧ (i % 4 = 3 → i < 20 → u = .bool (meetsB l [mOf n v P (i / 4)])) ∧ (20 ≤ i → u = .bool (meetsB l [mOf n v P (i - 20)])))
        (fun i u W W' h1 h2 => ⟨h2.1, h2.2.1, fun k1 k2 => by obtain ⟨b, q1, q2⟩ := h2.2.2.1 k1 k2; exact ⟨b, q1, q2.below h1 q2.lt⟩, h2.2.2.2.1, h2.2.2.2.2⟩) ?_
        [some 62, some 63, some 64, some 65, some 66, some 67, some 68, some 69, some 70, some 71, some 72, some 73, some 74, some 75, some 76, some 77, some 78, some 79, some 80, some 81, some 12, some 13, some 14, some 15, some 16] (by kernel_rfl) ?_
      · intro i o ho b vs w' hle hbd hout
        have hle' : Below w7.heap.size w7 w' := below_undrew hle
        have q0 : b.eval (.tmp 0) = .slice A l.length c := hout 0 (by kernel_rfl)
        rcases i with _ | _ | _ | _ | _ | _ | _ | _ | _ | _ | _ | _ | _ | _ | _ | _ | _ | _ | _ | _ | _ | _ | _ | _ | _ | i
        · cases ho
          exact wp_move (.tmp 0) rfl q0 ⟨_, rfl, ⟨fun _ _ => rfl, fun h => by omega, fun h => by omega, fun h => by omega, fun h => by omega⟩, Below.refl _ _⟩
        · cases ho
          have q1 : b.eval (.tmp 7) = .pointer (some ⟨b7, 0, none⟩) := hout 7 (by kernel_rfl)
          exact wp_load_row 42 (.tmp 7) rfl b7 q1 42 _ (0, 0) _ (x7.below hle' x7.lt) Try.underlying42 rfl (by kernel_rfl) ⟨_, rfl, ⟨fun h => by omega, fun _ _ => rfl, fun h => by omega, fun h => by omega, fun h => by omega⟩, Below.refl _ _⟩
        · cases ho
          obtain ⟨r1, r2⟩ := hbd 1 (by kernel_rfl)
          have r3 := (r2 63 rfl).trans (r1.2.1 rfl (by omega))
          exact build_one 63 rfl (mOf n v P 0) r3 ⟨_, rfl, ⟨fun h => by omega, fun h => by omega, fun _ _ => ⟨_, rfl, Blk.new _ _ _⟩, fun h => by omega, fun h => by omega⟩, (Below.refl _ _).alloc (Nat.le_refl _) _⟩
        · cases ho
          obtain ⟨r1, r2⟩ := hbd 0 (by kernel_rfl)
          obtain ⟨t1, t2⟩ := hbd 2 (by kernel_rfl)
          have r3 := (r2 62 rfl).trans (r1.1 rfl (by omega))
          obtain ⟨bb, u1, u2⟩ := t1.2.2.1 rfl (by omega)
          have t3 := (t2 64 rfl).trans u1
          refine wp_call2 (x := .tmp 62) (y := .tmp 64) rfl r3 t3 (hent _ _) ((HCM.out 0 w' bb (by omega) hle' u2).mono ?_)
          rintro e w'' ⟨rfl, hbw⟩
          exact ⟨_, rfl, _, rfl, ⟨fun h => by omega, fun h => by omega, fun h => by omega, fun _ _ => rfl, fun h => by omega⟩, hbw⟩
        · cases ho
          exact wp_move (.tmp 0) rfl q0 ⟨_, rfl, ⟨fun _ _ => rfl, fun h => by omega, fun h => by omega, fun h => by omega, fun h => by omega⟩, Below.refl _ _⟩
        · cases ho
          have q1 : b.eval (.tmp 8) = .pointer (some ⟨b8, 0, none⟩) := hout 8 (by kernel_rfl)
          exact wp_load_row 42 (.tmp 8) rfl b8 q1 42 _ (0, 0) _ (x8.below hle' x8.lt) Try.underlying42 rfl (by kernel_rfl) ⟨_, rfl, ⟨fun h => by omega, fun _ _ => rfl, fun h => by omega, fun h => by omega, fun h => by omega⟩, Below.refl _ _⟩
        · cases ho
          obtain ⟨r1, r2⟩ := hbd 5 (by kernel_rfl)
          have r3 := (r2 67 rfl).trans (r1.2.1 rfl (by omega))
          exact build_one 67 rfl (mOf n v P 1) r3 ⟨_, rfl, ⟨fun h => by omega, fun h => by omega, fun _ _ => ⟨_, rfl, Blk.new _ _ _⟩, fun h => by omega, fun h => by omega⟩, (Below.refl _ _).alloc (Nat.le_refl _) _⟩
        · cases ho
          obtain ⟨r1, r2⟩ := hbd 4 (by kernel_rfl)
          obtain ⟨t1, t2⟩ := hbd 6 (by kernel_rfl)
          have r3 := (r2 66 rfl).trans (r1.1 rfl (by omega))
          obtain ⟨bb, u1, u2⟩ := t1.2.2.1 rfl (by omega)
          have t3 := (t2 68 rfl).trans u1
          refine wp_call2 (x := .tmp 66) (y := .tmp 68) rfl r3 t3 (hent _ _) ((HCM.out 1 w' bb (by omega) hle' u2).mono ?_)
          rintro e w'' ⟨rfl, hbw⟩
          exact ⟨_, rfl, _, rfl, ⟨fun h => by omega, fun h => by omega, fun h => by omega, fun _ _ => rfl, fun h => by omega⟩, hbw⟩
        · cases ho
          exact wp_move (.tmp 0) rfl q0 ⟨_, rfl, ⟨fun _ _ => rfl, fun h => by omega, fun h => by omega, fun h => by omega, fun h => by omega⟩, Below.refl _ _⟩
        · cases ho
          have q1 : b.eval (.tmp 9) = .pointer (some ⟨b9, 0, none⟩) := hout 9 (by kernel_rfl)
          exact wp_load_row 42 (.tmp 9) rfl b9 q1 42 _ (0, 0) _ (x9.below hle' x9.lt) Try.underlying42 rfl (by kernel_rfl) ⟨_, rfl, ⟨fun h => by omega, fun _ _ => rfl, fun h => by omega, fun h => by omega, fun h => by omega⟩, Below.refl _ _⟩
        · cases ho
          obtain ⟨r1, r2⟩ := hbd 9 (by kernel_rfl)
          have r3 := (r2 71 rfl).trans (r1.2.1 rfl (by omega))
          exact build_one 71 rfl (mOf n v P 2) r3 ⟨_, rfl, ⟨fun h => by omega, fun h => by omega, fun _ _ => ⟨_, rfl, Blk.new _ _ _⟩, fun h => by omega, fun h => by omega⟩, (Below.refl _ _).alloc (Nat.le_refl _) _⟩
        · cases ho
          obtain ⟨r1, r2⟩ := hbd 8 (by kernel_rfl)
          obtain ⟨t1, t2⟩ := hbd 10 (by kernel_rfl)
          have r3 := (r2 70 rfl).trans (r1.1 rfl (by omega))
          obtain ⟨bb, u1, u2⟩ := t1.2.2.1 rfl (by omega)
          have t3 := (t2 72 rfl).trans u1
          refine wp_call2 (x := .tmp 70) (y := .tmp 72) rfl r3 t3 (hent _ _) ((HCM.out 2 w' bb (by omega) hle' u2).mono ?_)
          rintro e w'' ⟨rfl, hbw⟩
          exact ⟨_, rfl, _, rfl, ⟨fun h => by omega, fun h => by omega, fun h => by omega, fun _ _ => rfl, fun h => by omega⟩, hbw⟩
        · cases ho
          exact wp_move (.tmp 0) rfl q0 ⟨_, rfl, ⟨fun _ _ => rfl, fun h => by omega, fun h => by omega, fun h => by omega, fun h => by omega⟩, Below.refl _ _⟩
        · cases ho
          have q1 : b.eval (.tmp 11) = .pointer (some ⟨b11, 0, none⟩) := hout 11 (by kernel_rfl)
          exact wp_load_row 42 (.tmp 11) rfl b11 q1 42 _ (0, 0) _ (x11.below hle' x11.lt) Try.underlying42 rfl (by kernel_rfl) ⟨_, rfl, ⟨fun h => by omega, fun _ _ => rfl, fun h => by omega, fun h => by omega, fun h => by omega⟩, Below.refl _ _⟩
        · cases ho
          obtain ⟨r1, r2⟩ := hbd 13 (by kernel_rfl)
          have r3 := (r2 75 rfl).trans (r1.2.1 rfl (by omega))
          exact build_one 75 rfl (mOf n v P 3) r3 ⟨_, rfl, ⟨fun h => by omega, fun h => by omega, fun _ _ => ⟨_, rfl, Blk.new _ _ _⟩, fun h => by omega, fun h => by omega⟩, (Below.refl _ _).alloc (Nat.le_refl _) _⟩
        · cases ho
          obtain ⟨r1, r2⟩ := hbd 12 (by kernel_rfl)
          obtain ⟨t1, t2⟩ := hbd 14 (by kernel_rfl)
          have r3 := (r2 74 rfl).trans (r1.1 rfl (by omega))
          obtain ⟨bb, u1, u2⟩ := t1.2.2.1 rfl (by omega)
          have t3 := (t2 76 rfl).trans u1
          refine wp_call2 (x := .tmp 74) (y := .tmp 76) rfl r3 t3 (hent _ _) ((HCM.out 3 w' bb (by omega) hle' u2).mono ?_)
          rintro e w'' ⟨rfl, hbw⟩
          exact ⟨_, rfl, _, rfl, ⟨fun h => by omega, fun h => by omega, fun h => by omega, fun _ _ => rfl, fun h => by omega⟩, hbw⟩
        · cases ho
          exact wp_move (.tmp 0) rfl q0 ⟨_, rfl, ⟨fun _ _ => rfl, fun h => by omega, fun h => by omega, fun h => by omega, fun h => by omega⟩, Below.refl _ _⟩
        · cases ho
          have q1 : b.eval (.tmp 10) = .pointer (some ⟨b10, 0, none⟩) := hout 10 (by kernel_rfl)
          exact wp_load_row 42 (.tmp 10) rfl b10 q1 42 _ (0, 0) _ (x10.below hle' x10.lt) Try.underlying42 rfl (by kernel_rfl) ⟨_, rfl, ⟨fun h => by omega, fun _ _ => rfl, fun h => by omega, fun h => by omega, fun h => by omega⟩, Below.refl _ _⟩
        · cases ho
          obtain ⟨r1, r2⟩ := hbd 17 (by kernel_rfl)
          have r3 := (r2 79 rfl).trans (r1.2.1 rfl (by omega))
          exact build_one 79 rfl (mOf n v P 4) r3 ⟨_, rfl, ⟨fun h => by omega, fun h => by omega, fun _ _ => ⟨_, rfl, Blk.new _ _ _⟩, fun h => by omega, fun h => by omega⟩, (Below.refl _ _).alloc (Nat.le_refl _) _⟩
        · cases ho
          obtain ⟨r1, r2⟩ := hbd 16 (by kernel_rfl)
          obtain ⟨t1, t2⟩ := hbd 18 (by kernel_rfl)
          have r3 := (r2 78 rfl).trans (r1.1 rfl (by omega))
          obtain ⟨bb, u1, u2⟩ := t1.2.2.1 rfl (by omega)
          have t3 := (t2 80 rfl).trans u1
          refine wp_call2 (x := .tmp 78) (y := .tmp 80) rfl r3 t3 (hent _ _) ((HCM.out 4 w' bb (by omega) hle' u2).mono ?_)
          rintro e w'' ⟨rfl, hbw⟩
          exact ⟨_, rfl, _, rfl, ⟨fun h => by omega, fun h => by omega, fun h => by omega, fun _ _ => rfl, fun h => by omega⟩, hbw⟩
        · cases ho
          obtain ⟨r1, r2⟩ := hbd 3 (by kernel_rfl)
          have r3 := (r2 65 rfl).trans (r1.2.2.2.1 rfl (by omega))
          exact wp_assign (.tmp 65) rfl r3 ⟨_, rfl, ⟨fun _ h => by omega, fun _ h => by omega, fun _ h => by omega, fun _ h => by omega, fun _ => rfl⟩, Below.refl _ _⟩
        · cases ho
          obtain ⟨r1, r2⟩ := hbd 7 (by kernel_rfl)
          have r3 := (r2 69 rfl).trans (r1.2.2.2.1 rfl (by omega))
          exact wp_assign (.tmp 69) rfl r3 ⟨_, rfl, ⟨fun _ h => by omega, fun _ h => by omega, fun _ h => by omega, fun _ h => by omega, fun _ => rfl⟩, Below.refl _ _⟩
        · cases ho
          obtain ⟨r1, r2⟩ := hbd 11 (by kernel_rfl)
          have r3 := (r2 73 rfl).trans (r1.2.2.2.1 rfl (by omega))
          exact wp_assign (.tmp 73) rfl r3 ⟨_, rfl, ⟨fun _ h => by omega, fun _ h => by omega, fun _ h => by omega, fun _ h => by omega, fun _ => rfl⟩, Below.refl _ _⟩
        · cases ho
          obtain ⟨r1, r2⟩ := hbd 15 (by kernel_rfl)
          have r3 := (r2 77 rfl).trans (r1.2.2.2.1 rfl (by omega))
          exact wp_assign (.tmp 77) rfl r3 ⟨_, rfl, ⟨fun _ h => by omega, fun _ h => by omega, fun _ h => by omega, fun _ h => by omega, fun _ => rfl⟩, Below.refl _ _⟩
        · cases ho
          obtain ⟨r1, r2⟩ := hbd 19 (by kernel_rfl)
          have r3 := (r2 81 rfl).trans (r1.2.2.2.1 rfl (by omega))
          exact wp_assign (.tmp 81) rfl r3 ⟨_, rfl, ⟨fun _ h => by omega, fun _ h => by omega, fun _ h => by omega, fun _ h => by omega, fun _ => rfl⟩, Below.refl _ _⟩
        · cases ho
      · intro vs w8 hle hall
        have hle' : Below w7.heap.size w7 w8 := below_undrew hle
        have h12 := (hall 20 (by decide)).2.2.2.2 (by omega)
        have h13 := (hall 21 (by decide)).2.2.2.2 (by omega)
        have h14 := (hall 22 (by decide)).2.2.2.2 (by omega)
        have h15 := (hall 23 (by decide)).2.2.2.2 (by omega)
        have h16 := (hall 24 (by decide)).2.2.2.2 (by omega)
        clear hall
        obtain ⟨hnil, a0, c0, d0, e0, r0, r1, r2, r3, r4, r04, hcases⟩ := turns (P := P) HR.out HA0.out hv16 hvx
        rw [r0] at h12
        rw [show 21 - 20 = 1 from rfl, r1] at h13
        rw [show 22 - 20 = 2 from rfl, r2] at h14
        rw [show 23 - 20 = 3 from rfl, r3] at h15
        rw [show 24 - 20 = 4 from rfl, r4] at h16
        have k7 := x7.below hle' x7.lt
        have k10 := x10.below hle' x10.lt
        have hL8 := hL7.below (hle'.mono hsB)
        have hs8 := hle'.size
        have HTWO : Hid (∀ (W : World) (b : Nat), Below w8.heap.size w8 W → Blk W b 42 (matV (mOf n v P 0) ++ matV (mOf n v P 4)).toArray → Calls Try.prog 23 #[.slice A l.length c, .slice (some ⟨b, 0, none⟩) 2 2] W fun e W' => e = .returned (.bool a0) ∧ Below W.heap.size W W') := Lib.hid fun W b hW hblk => by
          rw [← r04]
          exact meets_calls W (hL8.below (hW.mono (by omega))) (by have := hW.size; omega) (mats_two hblk) (Nat.le_refl _) Hf.out (fun m hm => by simp at hm; rcases hm with rfl | rfl; exact HMS.out 0 (by omega); exact HMS.out 4 (by omega)) hn (by simp)
        have HNIL : Hid (∀ (W : World), Below w8.heap.size w8 W → Calls Try.prog 23 #[.slice A l.length c, .slice none 0 0] W fun e W' => e = .returned (.bool true) ∧ Below W.heap.size W W') := Lib.hid fun W hW => by
          rw [← hnil]
          exact meets_calls W (c2 := 0) (hL8.below (hW.mono (by omega))) (by have := hW.size; omega) (B2 := 0) Mats.nil_ (Nat.zero_le _) Hf.out (fun m hm => by simp at hm) hn (by simp)
        have y70 := k7.cell 0
        have y71 := k7.cell 1
        have y72 := k7.cell 2
        have y100 := k10.cell 0
        have y101 := k10.cell 1
        have y102 := k10.cell 2
        simp only [List.getElem?_toArray, List.getElem?_cons_zero, List.getElem?_cons_succ] at y70 y71 y72 y100 y101 y102
        have hbend : Below w.heap.size w w8 := hb0.trans ((hb7.trans (hle'.mono hs7)).mono (by omega))
        clear r0 r1 r2 r3 r4 r04 hnil hL8 hL7 hL HMS HCM x7 x8 x9 x10 x11 k7 k10 hle hb7 hle'
        simp only [putL, h12, h13, h14, h15, h16]
        rcases hcases with ⟨rfl, rfl, rfl, rfl⟩ | ⟨rfl, rfl, rfl, rfl⟩ | ⟨rfl, rfl, rfl, rfl⟩ | ⟨rfl, rfl, rfl, rfl⟩ | ⟨rfl, rfl, rfl, rfl⟩
        all_goals
          go_wp2_with fail
          refine (HTWO.out _ _ ((Below.refl _ _).alloc (Nat.le_refl _) _) (Blk.new _ _ _)).mono ?_
          rintro e w9 ⟨rfl, hb9⟩
          have hb89 := ((Below.refl w8.heap.size w8).alloc (Nat.le_refl _) (.cells (matV (mOf n v P 0) ++ matV (mOf n v P 4)).toArray 42)).trans (hb9.mono (by simp))
          go_wp2_with fail
          refine (HNIL.out _ hb89).mono ?_
          rintro e w10 ⟨rfl, hb10⟩
          go_wp2
          go_ret
          exact ⟨rfl, (hbend.trans (hb89.mono hbend.size)).trans (hb10.mono (by have := hbend.size; have := hb89.size; omega))⟩

set_option maxRecDepth 100000 in
theorem arg_mat {H : Type} {enc : TypeId × Value → H} {W : World} {base : Nat} {v : Value} {d : DataW H} {p : List MemPlace} (h : Arg enc Try.prog W base 42 v d p) :
    ∃ (n : ByteArray) (way : Int) (x : ByteArray), v = .agg #[.string n, .int .i64 way, .string x] ∧ FitM (n, way, x) := by
  obtain ⟨v0, v1, v2, y0, y1, y2, n, hv, hd, -, t0, t1, t2⟩ := Go.Joins.open_agg3 Try.underlying42 (by kernel_rfl) (by kernel_rfl) h.ok h.trod
  have hw : ∀ (j : Nat) (t : TypeId) (y : DataW H), [9, 3, 9][j]? = some t → [y0.1, y1.1, y2.1][j]? = some y → ∀ k ∈ y.weights Try.prog t, k ≤ reachBytes := by
    intro j t y ht hy k hk
    refine h.sized k ?_
    rw [hd]
    simp only [DataW.weights, Try.underlying42]
    exact DataW.weights_mem_each (j := j) (by simpa using ht) hy k hk
  obtain ⟨x0, rfl, s0⟩ := str_of Try.underlying9 t0 (hw 0 _ _ rfl rfl)
  obtain ⟨x1, r1, _⟩ := DataW.trod_int Try.underlying3 t1
  simp only [List.cons.injEq, and_true] at r1
  subst r1
  obtain ⟨x2, rfl, s2⟩ := str_of Try.underlying9 t2 (hw 2 _ _ rfl rfl)
  exact ⟨x0, x1, x2, hv, s0, s2⟩

theorem walk {H : Type} {enc : TypeId × Value → H} {W : World} {base : Nat} {v0 v1 v2 : Value} {d0 d1 d2 : DataW H} {p0 p1 p2 : List MemPlace} (g0 : Arg enc Try.prog W base 22 v0 d0 p0) (g1 : Arg enc Try.prog W base 42 v1 d1 p1) (g2 : Arg enc Try.prog W base 3 v2 d2 p2) :
    Calls Try.prog 7 #[v0, v1, v2] W fun e w' => e = .returned (.bool true) ∧ Below W.heap.size W w' := by
  obtain ⟨A, c, l, rfl, _, hl, hL, hF⟩ := arg_labs g0
  obtain ⟨n, way, v, rfl, hm⟩ := arg_mat g1
  obtain ⟨k, rfl, -, -⟩ := g2.int Try.underlying3
  cases hq : fewB l
  · exact early W hL (Nat.le_refl _) hF hl n way v k hm (.inl hq)
  · cases hr : rightB l
    · exact early W hL (Nat.le_refl _) hF hl n way v k hm (.inr (.inl ⟨hq, hr⟩))
    · cases ha : asksB (n, way, v)
      · exact early W hL (Nat.le_refl _) hF hl n way v k hm (.inr (.inr ⟨hq, hr, ha⟩))
      · exact body W hL (Nat.le_refl _) hF hl n way v k hm hq hr ha
end Go.Proofs.Ytbnlfljlomhngaa.lawLabelTurns
