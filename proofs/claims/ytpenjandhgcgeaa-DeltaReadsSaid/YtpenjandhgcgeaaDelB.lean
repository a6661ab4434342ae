/- Contracts of the package delta (chapter 4) and of its reference: steps, Turn. -/
import Derived.Test.YtpenjandhgcgeaaDelA
namespace Go.Proofs.Ytpenjandhgcgeaa
open Go.RowKit

/-- Differences from the place fr on, but only of the places from t on. -/
def dpart (fr t : Nat) (l : List Int) : List Int := (List.range l.length).map fun i => if t ≤ i ∧ fr ≤ i then l.getD i 0 - l.getD (i - 1) 0 else l.getD i 0
theorem dpart_len (fr t : Nat) (l : List Int) : (dpart fr t l).length = l.length := by simp [dpart]
theorem dpart_get {fr t : Nat} {l : List Int} {i : Nat} (h : i < l.length) : (dpart fr t l).getD i 0 = if t ≤ i ∧ fr ≤ i then l.getD i 0 - l.getD (i - 1) 0 else l.getD i 0 := by
  simp [dpart, List.getD, h]
theorem dpart_start (fr : Nat) (l : List Int) : dpart fr l.length l = l := by
  refine getD_ext (dpart_len ..) fun i h => ?_
  rw [dpart_len] at h
  rw [dpart_get h, if_neg (by omega)]
theorem dpart_end {fr t : Nat} (l : List Int) (h : t ≤ fr) : dpart fr t l = dsteps fr l := by
  refine getD_ext (by rw [dpart_len, dsteps_len]) fun i hi => ?_
  rw [dpart_len] at hi
  rw [dpart_get hi, dsteps_get hi]
  by_cases h1 : fr ≤ i
  · rw [if_pos h1, if_pos ⟨by omega, h1⟩]
  · rw [if_neg h1, if_neg (by omega)]
theorem dpart_low {fr s j : Nat} {l : List Int} (hj : j < l.length) (h : j < s) : (dpart fr s l).getD j 0 = l.getD j 0 := by rw [dpart_get hj, if_neg (by omega)]
theorem dpart_step {fr s : Nat} {l : List Int} (hs : s < l.length) (hf : fr ≤ s) : (dpart fr (s + 1) l).set s (l.getD s 0 - l.getD (s - 1) 0) = dpart fr s l := by
  refine getD_ext (by rw [List.length_set, dpart_len, dpart_len]) fun i hi => ?_
  rw [List.length_set, dpart_len] at hi
  rw [dpart_get hi]
  by_cases h : s = i
  · subst h
    rw [if_pos ⟨Nat.le_refl _, hf⟩]
    simp [List.getD, dpart_len, hi]
  · have e : ((dpart fr (s + 1) l).set s (l.getD s 0 - l.getD (s - 1) 0)).getD i 0 = (dpart fr (s + 1) l).getD i 0 := by
      simp [List.getD, List.getElem?_set_ne h]
    rw [e, dpart_get hi]
    by_cases h2 : s ≤ i ∧ fr ≤ i
    · rw [if_pos h2, if_pos (by omega)]
    · rw [if_neg h2, if_neg (by omega)]
theorem i64_get {l : List Int} {j : Nat} (hj : j < l.length) : (l.map (Value.int .i64))[j]? = some (.int .i64 (l.getD j 0)) := by
  rw [List.getElem?_map, List.getElem?_eq_getElem hj]; simp [List.getD, List.getElem?_eq_getElem hj]
theorem i64_set (l : List Int) (j : Nat) (x : Int) : (l.map (Value.int .i64)).set j (.int .i64 x) = (l.set j x).map (Value.int .i64) := by rw [List.map_set]
theorem own_someI {w : World} {base n c : Nat} {e : TypeId} {A : Option Addr} {xs : List Value} (h : w.ownsRow base e 1 (.slice A n c) n xs) (hn : 0 < n) : ∃ g, A = some ⟨g, 0, none⟩ ∧ base ≤ g := by
  rcases h.2 with ⟨_, h0⟩ | ⟨g, cap, cur, hv, hb, _⟩
  · omega
  · injection hv with h1 _ _
    exact ⟨g, h1, hb⟩
theorem own_lenI {w : World} {base n : Nat} {e : TypeId} {v : Value} {l : List Int} (h : w.ownsRow base e 1 v n (l.map (Value.int .i64))) (hn : n = l.length) : w.ownsRow base e 1 v l.length (l.map (Value.int .i64)) := by rwa [← hn]

set_option maxRecDepth 100000 in
set_option maxHeartbeats 800000 in
theorem steps_calls (w : World) {B c : Nat} {A : Option Addr} {l : List Int} (fr : Nat) (h : I64s w B A l) (hB : B ≤ w.heap.size) (hn : l.length ≤ 2048) (hf : 1 ≤ fr) (hf2 : fr ≤ 2)
    (hin : ∀ i, -2305843009213693952 ≤ l.getD i 0 ∧ l.getD i 0 ≤ 2305843009213693952) :
    Calls Try.prog 23 #[.slice A l.length c, .int .i64 (fr : Int)] w (RetInts w (dsteps fr l)) := by
  have Hin := Lib.hid hin
  clear hin
  go_enter Try.func23, Try.ntmps23
  go_wp2_with (at_builtin; go_must (refine wpList_append_sl _ rfl (.tmp 7) (.tmp 8) _ rfl w.heap.size 2 _ 1 8 Try.underlying22 Try.infoI64 rfl (by omega) _ _ _ rfl (World.ownsRow_made w #[] 0 (Nat.le_refl _) (Nat.zero_le _) rfl) B A l.length c (l.map (Value.int .i64)) rfl (h.to ((Below.refl B w).alloc hB _) (Nat.le_refl _)) (i64_one l) (by unfold maxLen; omega) (by omega) (by simp) ?_))
  intro A1 c1 w1 hc1 hm1 _ hbel hown _ _
  have hown1 : w1.ownsRow w.heap.size 2 1 (.slice A1 l.length c1) l.length ((dpart fr l.length l).map (Value.int .i64)) := by rw [dpart_start]; simpa using hown
  have hbel1 : Below w.heap.size w w1 := ((Below.refl _ _).alloc (Nat.le_refl _) _).trans hbel
  clear hown hbel
  go_wp2
  go_loopw [6] (fun i wr => ∃ t : Nat, t ≤ l.length ∧ i = .int .i64 ((t : Int) - 1) ∧ wr.ownsRow w.heap.size 2 1 (.slice A1 l.length c1) l.length ((dpart fr t l).map (Value.int .i64)) ∧ Below w.heap.size w wr) (fun i _ => (intOf i + 1).toNat)
  case atStart => exact ⟨l.length, Nat.le_refl _, rfl, hown1, hbel1⟩
  case round =>
    obtain ⟨t, ht, rfl, hown, hbel⟩ := hrel
    by_cases hle : t ≤ fr
    · have H := dpart_end l hle
      rw [H] at hown
      have hown2 : wr.ownsRow w.heap.size 2 1 (.slice A1 l.length c1) (dsteps fr l).length ((dsteps fr l).map (Value.int .i64)) := by rw [dsteps_len]; exact hown
      clear H hown hown1
      have h1 : (t : Int) - 1 < (fr : Int) := by omega
      go_wp2
      go_ret
      exact ⟨_, rfl, hown2, hbel⟩
    · obtain ⟨s, rfl⟩ : ∃ s, t = s + 1 := ⟨t - 1, by omega⟩
      have ee : ((s + 1 : Nat) : Int) - 1 = (s : Int) := by omega
      rw [ee]
      obtain ⟨g, rfl, hg⟩ := own_someI hown (by omega)
      have hs1 : 1 ≤ s := by omega
      have c0 : wr.cell? ⟨g, s, none⟩ = some (.int .i64 (l.getD s 0)) := by
        rw [hown.cellAt _ (by omega), i64_get (by rw [dpart_len]; omega), dpart_low (by omega) (by omega)]
      have c2 : wr.cell? ⟨g, s - 1, none⟩ = some (.int .i64 (l.getD (s - 1) 0)) := by
        rw [hown.cellAt _ (by omega), i64_get (by rw [dpart_len]; omega), dpart_low (by omega) (by omega)]
      have f0 := hown.frozenAt s
      have b1 := Hin.out s
      have b2 := Hin.out (s - 1)
      have hst := (hown.stored s (.int .i64 (l.getD s 0 - l.getD (s - 1) 0))).1
      rw [i64_set, dpart_step (by omega) (by omega)] at hst
      generalize l.getD s 0 = x at *
      generalize l.getD (s - 1) 0 = y at *
      have Hst := Lib.hid hst
      have e0 : IntKind.i64.wrap ((s : Int) - 1) = (s : Int) - 1 := IntWalk.i64_in _ (by omega)
      have e1 : IntKind.i64.wrap (x - y) = x - y := IntWalk.i64_in _ (by omega)
      have e2 : ((s : Int) - 1).toNat = s - 1 := by omega
      have i0 : (0 : Int) ≤ (s : Int) - 1 := by omega
      have i1 : (s : Int) - 1 < (l.length : Int) := by omega
      have i2 : (s : Int) < (l.length : Int) := by omega
      have i3 : (0 : Int) ≤ (s : Int) := by omega
      have i5 : (1 : Int) ≤ (s : Int) := by omega
      have i4 : (fr : Int) ≤ (s : Int) := by omega
      clear hst ee hown1 hle
      go_wp2_with fail
      go_still_tail 11, (by kernel_rfl)
      clear e0 e1
      go_wp2
      go_roundw
      case rel => exact ⟨s, by omega, by go_num, Hst.out, (below_drewN_ hbel 1).setCell (by simpa using hg) _⟩
      case measure => simp [intOf]

def dTurnR (l : List Int) (way : Int) : List Int × Nat := if dcheck l way = 0 then (dturn way.toNat l, 0) else ([], dcheck l way)
theorem dcheck_0 {l : List Int} {way : Int} (h : dcheck l way = 0) : ¬ (way < 0 ∨ 2 < way) ∧ l.length ≤ 2048 ∧ l.all inB = true := by
  unfold dcheck at h
  by_cases hw : way < 0 ∨ 2 < way
  · rw [if_pos hw] at h; cases h
  · rw [if_neg hw] at h
    by_cases hl : 2048 < l.length
    · rw [if_pos hl] at h; cases h
    · rw [if_neg hl] at h
      by_cases ha : l.all inB = true
      · exact ⟨hw, by omega, ha⟩
      · rw [if_neg ha] at h; cases h
theorem dval_small {way : Nat} {l : List Int} (hw : way ≤ 1) (h : l.all inB = true) (i : Nat) : -2305843009213693952 ≤ dval way l i ∧ dval way l i ≤ 2305843009213693952 := by
  have h0 := all_get h i
  have h1 := all_get h (i - 1)
  unfold dval
  rw [if_neg (by omega)]
  split <;> omega
theorem dturn_small {way : Nat} {l : List Int} (hw : way ≤ 1) (h : l.all inB = true) (i : Nat) : -2305843009213693952 ≤ (dturn way l).getD i 0 ∧ (dturn way l).getD i 0 ≤ 2305843009213693952 := by
  rcases Nat.lt_or_ge i l.length with h1 | h1
  · rw [dturn_get h1]; exact dval_small hw h i
  · have e : (dturn way l).getD i 0 = 0 := by simp [List.getD, List.getElem?_eq_none (show (dturn way l).length ≤ i by rw [dturn_len]; exact h1)]
    rw [e]; omega
theorem dturn_next {f : Nat} {l : List Int} (h1 : 1 ≤ f) (h2 : f ≤ 2) : dsteps f (dturn (f - 1) l) = dturn f l := by
  have : f = 1 ∨ f = 2 := by omega
  rcases this with rfl | rfl
  · show dsteps 1 (dturn 0 l) = _
    rw [dturn_0, dturn_1]
  · show dsteps 2 (dturn 1 l) = _
    rw [← dturn_1, dturn_2]
theorem dTurnR_bad {l : List Int} {way : Int} (h : dcheck l way ≠ 0) : dTurnR l way = ([], dcheck l way) := by unfold dTurnR; rw [if_neg h]
theorem dTurnR_ok {l : List Int} {v : Nat} (h : dcheck l (v : Int) = 0) : dTurnR l (v : Int) = (dturn v l, 0) := by unfold dTurnR; rw [if_pos h, Int.toNat_natCast]

set_option maxRecDepth 100000 in
set_option maxHeartbeats 800000 in
theorem turn_calls (w : World) {B c : Nat} {A : Option Addr} {l : List Int} (way : Int) (h : I64s w B A l) (hB : B ≤ w.heap.size) (hn : l.length ≤ 140737488355328) :
    Calls Try.prog 10 #[.slice A l.length c, .int .i64 way] w (RetIE w (dTurnR l way)) := by
  by_cases hd : dcheck l way = 0
  · obtain ⟨hw, hl, ha⟩ := dcheck_0 hd
    obtain ⟨v, rfl, hv⟩ := way_nat hw
    have hcall := check_calls w (c := c) (v : Int) h hn
    rw [hd] at hcall
    have HC := Lib.hid hcall
    have HR := Lib.hid (dTurnR_ok hd)
    clear hd hw hcall
    have Ha := Lib.hid ha
    clear ha
    go_enter Try.func10, Try.ntmps10
    go_wp2_with fail
    refine HC.out.mono ?_
    rintro e w' ⟨rfl, rfl⟩
    go_wp2_with (at_builtin; go_must (refine wpList_append_sl _ rfl (.tmp 15) (.tmp 16) _ rfl w.heap.size 2 _ 1 8 Try.underlying22 Try.infoI64 rfl (by omega) _ _ _ rfl (World.ownsRow_made w #[] 0 (Nat.le_refl _) (Nat.zero_le _) rfl) B A l.length c (l.map (Value.int .i64)) rfl (h.to ((Below.refl B w).alloc hB _) (Nat.le_refl _)) (i64_one l) (by unfold maxLen; omega) (by omega) (by simp) ?_))
    intro A1 c1 w1 hc1 hm1 _ hbel hown _ _
    have hown1 : w1.ownsRow w.heap.size 2 1 (.slice A1 l.length c1) (dturn (1 - 1) l).length ((dturn (1 - 1) l).map (Value.int .i64)) := by show w1.ownsRow _ _ _ _ (dturn 0 l).length ((dturn 0 l).map _); rw [dturn_0]; simpa using hown
    have hbel1 : Below w.heap.size w w1 := ((Below.refl _ _).alloc (Nat.le_refl _) _).trans hbel
    clear hown hbel
    go_wp2
    go_loopw [7, 8] (fun out fr wr => ∃ (f : Nat), 1 ≤ f ∧ f ≤ v + 1 ∧ fr = .int .i64 (f : Int) ∧ wr.ownsRow w.heap.size 2 1 out (dturn (f - 1) l).length ((dturn (f - 1) l).map (Value.int .i64)) ∧ Below w.heap.size w wr) (fun _ fr _ => (v + 1) - (intOf fr).toNat)
    case atStart => exact ⟨1, by omega, by omega, rfl, hown1, hbel1⟩
    case round =>
      obtain ⟨f, hf1, hf2, rfl, hown, hbel⟩ := hrel
      by_cases hlt : f ≤ v
      · obtain ⟨A2, c2, rfl, hc2, hm2, hr2⟩ := own_slice hown
        have hr2' : I64s wr wr.heap.size A2 (dturn (f - 1) l) := hr2
        have hnl := Lib.hid (dturn_len (f - 1) l)
        have hcall := steps_calls wr (c := c2) f hr2' (Nat.le_refl _) (by rw [hnl.out]; exact hl) hf1 (by omega) (fun i => dturn_small (by omega) Ha.out i)
        rw [dturn_next hf1 (by omega)] at hcall
        have HS := Lib.hid hcall
        have s1 := hbel.size
        clear hcall hown1
        generalize dturn (f - 1) l = D at *
        have l1 : (f : Int) ≤ (v : Int) := by omega
        go_wp2_with fail
        refine HS.out.mono ?_
        rintro e w2 ⟨v2, rfl, hown2, hbel2⟩
        have hown3 := own_base hown2 s1
        have hbel3 := hbel.trans (hbel2.mono s1)
        clear hown2
        go_wp2
        go_roundw
        case rel => exact ⟨f + 1, by omega, by omega, by go_num, hown3, hbel3⟩
        case measure => simp [intOf]; omega
      · have hfv : f - 1 = v := by omega
        rw [hfv] at hown
        have l1 : (v : Int) < (f : Int) := by omega
        clear hfv hown1
        go_wp2
        go_ret2
        rw [HR.out]
        exact ⟨_, rfl, hown, hbel⟩
  · have HC := Lib.hid (check_calls w (c := c) way h hn)
    have HR := Lib.hid (dTurnR_bad hd)
    have q : (((dcheck l way : Nat) : Int) != 0) = true := net (by omega)
    clear hd
    generalize dcheck l way = d at *
    go_enter Try.func10, Try.ntmps10
    go_wp2_with fail
    refine HC.out.mono ?_
    rintro e w' ⟨rfl, rfl⟩
    go_wp2
    go_ret2
    rw [HR.out]
    exact ⟨_, rfl, World.ownsRow_nil _ _ _ _, Below.refl _ _⟩

theorem own_snocI {w : World} {base : Nat} {t : TypeId} {v : Value} {l : List Int} {x d : Int} {n : Nat} (h : w.ownsRow base t 1 v (n + 1) (l.map (Value.int .i64) ++ [.int .i64 x])) (hx : x = d) (hn : n = l.length) :
    w.ownsRow base t 1 v (l ++ [d]).length ((l ++ [d]).map (Value.int .i64)) := by
  subst hx; subst hn; simpa using h
theorem take_getD {T : List Int} {k : Nat} (hk : k < T.length) : T.take (k + 1) = T.take k ++ [T.getD k 0] := by
  rw [List.take_succ_eq_append_getElem hk]; simp [List.getD, List.getElem?_eq_getElem hk]

theorem dval_00 {l : List Int} {k : Nat} : dval 0 l k = l.getD k 0 := by unfold dval; rw [if_neg (by omega), if_neg (by omega)]
theorem dval_k0 {v : Nat} {l : List Int} : dval v l 0 = l.getD 0 0 := by unfold dval; rw [if_neg (by omega), if_neg (by omega)]
theorem dval_x0 {v : Nat} {l : List Int} {k : Nat} (h : v = 0 ∨ k = 0) : dval v l k = l.getD k 0 := by unfold dval; rw [if_neg (by omega), if_neg (by omega)]
theorem dval_11 {l : List Int} {k : Nat} (h : 1 ≤ k) : dval 1 l k = l.getD k 0 - l.getD (k - 1) 0 := by unfold dval; rw [if_neg (by omega), if_pos ⟨by omega, h⟩]
theorem dval_21 {l : List Int} : dval 2 l 1 = l.getD 1 0 - l.getD 0 0 := by unfold dval; rw [if_neg (by omega), if_pos (by omega)]
theorem dval_22 {l : List Int} {k : Nat} (h : 2 ≤ k) : dval 2 l k = l.getD k 0 - 2 * l.getD (k - 1) 0 + l.getD (k - 2) 0 := by unfold dval; rw [if_pos (by omega)]

set_option maxRecDepth 100000 in
set_option maxHeartbeats 1600000 in
theorem turnR_calls (w : World) {B c : Nat} {A : Option Addr} {l : List Int} (v : Nat) (h : I64s w B A l) (hB : B ≤ w.heap.size) (hn : l.length ≤ 2048) (hv : v ≤ 2) (ha : l.all inB = true) :
    Calls Try.prog 14 #[.slice A l.length c, .int .i64 (v : Int)] w (RetInts w (dturn v l)) := by
  have Ha := Lib.hid ha
  clear ha
  have HT := Lib.hid (dturn_len v l)
  have HG : Hid (∀ k, k < l.length → (dturn v l).getD k 0 = dval v l k) := Lib.hid fun k hk => dturn_get hk
  go_enter Try.func14, Try.ntmps14
  go_wp2
  generalize dturn v l = T at *
  go_loopw [5, 12] (fun out i wr => ∃ (k : Nat), k ≤ l.length ∧ i = .int .i64 (k : Int) ∧ wr.ownsRow w.heap.size 2 1 out (T.take k).length ((T.take k).map (Value.int .i64)) ∧ Below w.heap.size w wr) (fun _ i _ => l.length - (intOf i).toNat)
  case atStart => exact ⟨0, by omega, rfl, by simpa using World.ownsRow_made w #[] 0 (Nat.le_refl _) (Nat.zero_le _) rfl, (Below.refl _ _).alloc (Nat.le_refl _) _⟩
  case round =>
    obtain ⟨k, hk, rfl, hown, hbel⟩ := hrel
    by_cases hlt : k < l.length
    · obtain ⟨b, off, rfl, hbB, hcell⟩ := (h.below (hbel.mono hB)).cell (show 0 < l.length by omega)
      have c0 := hcell k hlt
      have hTk := HG.out k hlt
      have htk : (T.take k).length ≤ 2048 := by rw [List.length_take]; omega
      have b0 := all_get Ha.out k
      have b1 := all_get Ha.out (k - 1)
      have b2 := all_get Ha.out (k - 2)
      have s1 := hbel.size
      have hcase : (v = 0 ∨ k = 0) ∨ (v = 1 ∧ 1 ≤ k) ∨ (v = 2 ∧ k = 1) ∨ (v = 2 ∧ 2 ≤ k) := by omega
      have hsn := take_getD (T := T) (k := k) (by rw [HT.out]; exact hlt)
      rw [hTk] at hsn
      have Hsn := Lib.hid hsn
      clear hsn hTk
      generalize T.take k = D at *
      rcases hcase with h0 | ⟨hv1, h1⟩ | ⟨hv1, hk1⟩ | ⟨hv1, h2⟩
      · have Hy : Hid (l.getD k 0 = dval v l k) := Lib.hid (dval_x0 h0).symm
        clear hcell
        generalize l.getD k 0 = x at *
        have hv3 : v = 0 ∨ v = 1 ∨ v = 2 := by omega
        clear b1 b2
        have hz : v = 0 ∨ (v = 1 ∧ k < 1) ∨ (v = 2 ∧ k < 1) := by omega
        have hz2 : ((v : Int) < 1 ∧ ((v : Int) == 2) = false) ∨ ((1 : Int) ≤ (v : Int) ∧ ((v : Int) == 2) = false ∧ (k : Int) < 1) ∨ ((1 : Int) ≤ (v : Int) ∧ ((v : Int) == 2) = true ∧ (k : Int) < 1 ∧ (k : Int) < 2) := by
          rcases hz with h | h | h
          · exact .inl ⟨by omega, eqf (by omega)⟩
          · exact .inr (.inl ⟨by omega, eqf (by omega), by omega⟩)
          · exact .inr (.inr ⟨by omega, eqt (by omega), by omega, by omega⟩)
        clear h0 hv3 hz
        rcases hz2 with ⟨hw1, hw2⟩ | ⟨hw1, hw2, hk0⟩ | ⟨hw1, hw2, hk0, hk2⟩
        all_goals
          go_wp2_with (at_builtin; go_must (refine wpList_push _ rfl (.tmp 51) (.tmp 53) _ rfl w.heap.size 2 _ 8 Try.underlying22 Try.infoI64 rfl _ _ _ _ _ rfl rfl hown rfl (by unfold maxLen; omega) (by omega) s1 ?_))
          intro v' w1 hown' hbel' _ _
          have hown2 := own_snocI hown' Hy.out rfl
          rw [← Hsn.out] at hown2
          clear hown' hown
          go_wp2
          go_roundw
          case rel => exact ⟨k + 1, by omega, by go_num, hown2, hbel.trans hbel'⟩
          case measure => simp [intOf]; omega
      · have Hy : Hid (l.getD k 0 - l.getD (k - 1) 0 = dval v l k) := Lib.hid (by rw [hv1]; exact (dval_11 h1).symm)
        have hw1 : (1 : Int) ≤ (v : Int) := by omega
        have hw2 : ((v : Int) == 2) = false := eqf (by omega)
        clear hv1
        have c1 := hcell (k - 1) (by omega)
        clear hcell b2
        generalize l.getD k 0 = x at *
        generalize l.getD (k - 1) 0 = y at *
        have e2 : ((k : Int) - 1).toNat = k - 1 := by omega
        have l1 : (1 : Int) ≤ (k : Int) := by omega
        have l2 : (0 : Int) ≤ (k : Int) - 1 := by omega
        have l3 : (k : Int) - 1 < (l.length : Int) := by omega
        go_wp2_with (at_builtin; go_must (refine wpList_push _ rfl (.tmp 51) (.tmp 53) _ rfl w.heap.size 2 _ 8 Try.underlying22 Try.infoI64 rfl _ _ _ _ _ rfl rfl hown rfl (by unfold maxLen; omega) (by omega) s1 ?_))
        intro v' w1 hown' hbel' _ _
        have hown2 := own_snocI hown' Hy.out rfl
        rw [← Hsn.out] at hown2
        clear hown' hown
        go_wp2
        go_roundw
        case rel => exact ⟨k + 1, by omega, by go_num, hown2, hbel.trans hbel'⟩
        case measure => simp [intOf]; omega
      · have Hy : Hid (l.getD k 0 - l.getD (k - 1) 0 = dval v l k) := Lib.hid (by rw [hk1, hv1]; exact dval_21.symm)
        have hw1 : (1 : Int) ≤ (v : Int) := by omega
        have hw2 : ((v : Int) == 2) = true := eqt (by omega)
        clear hv1
        have c1 := hcell (k - 1) (by omega)
        clear hcell b2
        generalize l.getD k 0 = x at *
        generalize l.getD (k - 1) 0 = y at *
        have e2 : ((k : Int) - 1).toNat = k - 1 := by omega
        have l1 : (1 : Int) ≤ (k : Int) := by omega
        have l4 : (k : Int) < 2 := by omega
        have l2 : (0 : Int) ≤ (k : Int) - 1 := by omega
        have l3 : (k : Int) - 1 < (l.length : Int) := by omega
        clear hk1
        go_wp2_with (at_builtin; go_must (refine wpList_push _ rfl (.tmp 51) (.tmp 53) _ rfl w.heap.size 2 _ 8 Try.underlying22 Try.infoI64 rfl _ _ _ _ _ rfl rfl hown rfl (by unfold maxLen; omega) (by omega) s1 ?_))
        intro v' w1 hown' hbel' _ _
        have hown2 := own_snocI hown' Hy.out rfl
        rw [← Hsn.out] at hown2
        clear hown' hown
        go_wp2
        go_roundw
        case rel => exact ⟨k + 1, by omega, by go_num, hown2, hbel.trans hbel'⟩
        case measure => simp [intOf]; omega
      · have Hy : Hid (l.getD k 0 - 2 * l.getD (k - 1) 0 + l.getD (k - 2) 0 = dval v l k) := Lib.hid (by rw [hv1]; exact (dval_22 h2).symm)
        have hw1 : (1 : Int) ≤ (v : Int) := by omega
        have hw2 : ((v : Int) == 2) = true := eqt (by omega)
        clear hv1
        have c1 := hcell (k - 1) (by omega)
        have c2 := hcell (k - 2) (by omega)
        clear hcell
        generalize l.getD k 0 = x at *
        generalize l.getD (k - 1) 0 = y at *
        generalize l.getD (k - 2) 0 = z at *
        have e2 : ((k : Int) - 1).toNat = k - 1 := by omega
        have e3 : ((k : Int) - 2).toNat = k - 2 := by omega
        have l0 : (1 : Int) ≤ (k : Int) := by omega
        have l1 : (2 : Int) ≤ (k : Int) := by omega
        have l2 : (0 : Int) ≤ (k : Int) - 1 := by omega
        have l3 : (k : Int) - 1 < (l.length : Int) := by omega
        have l4 : (0 : Int) ≤ (k : Int) - 2 := by omega
        have l5 : (k : Int) - 2 < (l.length : Int) := by omega
        go_wp2_with fail
        have e4 : IntKind.i64.wrap ((k : Int) - 1) = (k : Int) - 1 := IntWalk.i64_in _ (by omega)
        have e5 : IntKind.i64.wrap ((k : Int) - 2) = (k : Int) - 2 := IntWalk.i64_in _ (by omega)
        have e6 : IntKind.i64.wrap (2 * y) = 2 * y := IntWalk.i64_in _ (by omega)
        have e7 : IntKind.i64.wrap (x - 2 * y) = x - 2 * y := IntWalk.i64_in _ (by omega)
        have e8 : IntKind.i64.wrap (x - 2 * y + z) = x - 2 * y + z := IntWalk.i64_in _ (by omega)
        go_quiet (fail)
        clear e4 e5 e6 e7 e8
        have hown := own_drewN hown nq
        have hbel := below_drewN_ hbel nq
        go_wp2_with (at_builtin; go_must (refine wpList_push _ rfl (.tmp 51) (.tmp 53) _ rfl w.heap.size 2 _ 8 Try.underlying22 Try.infoI64 rfl _ _ _ _ _ rfl rfl hown rfl (by unfold maxLen; omega) (by omega) s1 ?_))
        intro v' w1 hown' hbel' _ _
        have hown2 := own_snocI hown' Hy.out rfl
        rw [← Hsn.out] at hown2
        clear hown' hown
        go_wp2
        go_roundw
        case rel => exact ⟨k + 1, by omega, by go_num, hown2, hbel.trans hbel'⟩
        case measure => simp [intOf]; omega
    · have e : T.take k = T := List.take_of_length_le (by rw [HT.out]; omega)
      rw [e] at hown
      clear e
      go_wp2
      go_ret
      exact ⟨_, rfl, hown, hbel⟩
end Go.Proofs.Ytpenjandhgcgeaa
