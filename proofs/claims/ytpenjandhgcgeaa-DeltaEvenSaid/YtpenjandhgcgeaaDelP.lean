/- Plain: rows of integers as bytes (chapter 4). No program in sight. -/
import Derived.Test.YtpenjandhgcgeaaNumQ
import Derived.Test.YtpenjandhgcgeaaBits
namespace Go.Proofs.Ytpenjandhgcgeaa

def inB (x : Int) : Bool := decide (-1152921504606846976 ≤ x ∧ x ≤ 1152921504606846976)
theorem inB_iff {x : Int} : inB x = true ↔ -1152921504606846976 ≤ x ∧ x ≤ 1152921504606846976 := by unfold inB; exact decide_eq_true_iff
/-- The error of a row and a way. -/
def dcheck (l : List Int) (way : Int) : Nat := if way < 0 ∨ 2 < way then 1 else if 2048 < l.length then 5 else if l.all inB = true then 0 else 2

/-- What a way makes of the integer at place i. -/
def dval (way : Nat) (l : List Int) (i : Nat) : Int :=
  if 2 ≤ way ∧ 2 ≤ i then l.getD i 0 - 2 * l.getD (i - 1) 0 + l.getD (i - 2) 0
  else if 1 ≤ way ∧ 1 ≤ i then l.getD i 0 - l.getD (i - 1) 0 else l.getD i 0
def dturn (way : Nat) (l : List Int) : List Int := (List.range l.length).map (dval way l)
/-- Differences from the place fr on. -/
def dsteps (fr : Nat) (l : List Int) : List Int := (List.range l.length).map fun i => if fr ≤ i then l.getD i 0 - l.getD (i - 1) 0 else l.getD i 0

theorem dturn_len (way : Nat) (l : List Int) : (dturn way l).length = l.length := by simp [dturn]
theorem dsteps_len (fr : Nat) (l : List Int) : (dsteps fr l).length = l.length := by simp [dsteps]
theorem dturn_get {way : Nat} {l : List Int} {i : Nat} (h : i < l.length) : (dturn way l).getD i 0 = dval way l i := by
  simp [dturn, List.getD, h]
theorem dsteps_get {fr : Nat} {l : List Int} {i : Nat} (h : i < l.length) : (dsteps fr l).getD i 0 = if fr ≤ i then l.getD i 0 - l.getD (i - 1) 0 else l.getD i 0 := by
  simp [dsteps, List.getD, h]
theorem getD_ext {l m : List Int} (h : l.length = m.length) (hi : ∀ i, i < l.length → l.getD i 0 = m.getD i 0) : l = m := by
  refine List.ext_getElem h fun i h1 h2 => ?_
  have := hi i h1
  simpa [List.getD, List.getElem?_eq_getElem h1, List.getElem?_eq_getElem h2] using this
theorem dturn_0 (l : List Int) : dturn 0 l = l := by
  refine getD_ext (dturn_len 0 l) fun i h => ?_
  rw [dturn_len] at h
  rw [dturn_get h]; unfold dval; rw [if_neg (by omega), if_neg (by omega)]
theorem dturn_1 (l : List Int) : dsteps 1 l = dturn 1 l := by
  refine getD_ext (by rw [dsteps_len, dturn_len]) fun i h => ?_
  rw [dsteps_len] at h
  rw [dturn_get h, dsteps_get h]; unfold dval
  rw [if_neg (show ¬ (2 ≤ 1 ∧ 2 ≤ i) by omega)]
  by_cases hi : 1 ≤ i
  · rw [if_pos hi, if_pos ⟨Nat.le_refl _, hi⟩]
  · rw [if_neg hi, if_neg (by omega)]
theorem dturn_2 (l : List Int) : dsteps 2 (dsteps 1 l) = dturn 2 l := by
  refine getD_ext (by rw [dsteps_len, dsteps_len, dturn_len]) fun i h => ?_
  rw [dsteps_len, dsteps_len] at h
  rw [dturn_get h, dsteps_get (by rw [dsteps_len]; exact h)]; unfold dval
  by_cases hi : 2 ≤ i
  · rw [if_pos hi, if_pos ⟨Nat.le_refl _, hi⟩, dsteps_get h, dsteps_get (by omega), if_pos (by omega), if_pos (by omega)]
    have e : i - 1 - 1 = i - 2 := by omega
    rw [e]; omega
  · rw [if_neg hi, if_neg (by omega), dsteps_get h]
    by_cases h1 : 1 ≤ i
    · rw [if_pos h1, if_pos ⟨by omega, h1⟩]
    · rw [if_neg h1, if_neg (by omega)]

theorem all_get {l : List Int} (h : l.all inB = true) (i : Nat) : -1152921504606846976 ≤ l.getD i 0 ∧ l.getD i 0 ≤ 1152921504606846976 := by
  rcases Nat.lt_or_ge i l.length with h1 | h1
  · have := List.all_eq_true.1 h l[i] (List.getElem_mem h1)
    rw [inB_iff] at this
    simpa [List.getD, List.getElem?_eq_getElem h1] using this
  · have e : l.getD i 0 = 0 := by simp [List.getD, List.getElem?_eq_none h1]
    rw [e]; omega
theorem dval_in {way : Nat} {l : List Int} (h : l.all inB = true) (i : Nat) : -4611686018427387904 ≤ dval way l i ∧ dval way l i ≤ 4611686018427387904 := by
  have h0 := all_get h i
  have h1 := all_get h (i - 1)
  have h2 := all_get h (i - 2)
  unfold dval
  split
  · omega
  · split <;> omega
theorem dturn_in {way : Nat} {l : List Int} (h : l.all inB = true) : ∀ x ∈ dturn way l, -4611686018427387904 ≤ x ∧ x ≤ 4611686018427387904 := by
  intro x hx
  obtain ⟨i, _, rfl⟩ := List.mem_map.1 hx
  exact dval_in h i

/-- Signed numbers, one behind the other. -/
def zjoin : List Int → List UInt8
  | [] => []
  | x :: r => putU (zigN x) ++ zjoin r
theorem zjoin_app : ∀ l r : List Int, zjoin (l ++ r) = zjoin l ++ zjoin r
  | [], r => by simp [zjoin]
  | x :: l, r => by simp [zjoin, zjoin_app l r]
theorem zjoin_snoc (l : List Int) (x : Int) : zjoin (l ++ [x]) = zjoin l ++ putU (zigN x) := by rw [zjoin_app]; simp [zjoin]
theorem zig_lt62 {x : Int} (h : -4611686018427387904 ≤ x ∧ x ≤ 4611686018427387904) : zigN x ≤ 18446744073709551615 := zig_lt (by omega) (by omega)
theorem zjoin_len : ∀ l : List Int, (∀ x ∈ l, -4611686018427387904 ≤ x ∧ x ≤ 4611686018427387904) → (zjoin l).length ≤ 10 * l.length
  | [], _ => by simp [zjoin]
  | x :: r, h => by
    have h1 := putU_len10 (zig_lt62 (h x List.mem_cons_self))
    have h2 := zjoin_len r (fun y hy => h y (List.mem_cons_of_mem _ hy))
    simp only [zjoin, List.length_append, List.length_cons]
    omega
/-- A row's bytes. -/
def denc (way : Nat) (l : List Int) : List UInt8 := putU l.length ++ zjoin (dturn way l)
theorem denc_len {way : Nat} {l : List Int} (h : l.all inB = true) (hl : l.length ≤ 2048) : (denc way l).length ≤ 20490 ∧ 1 ≤ (denc way l).length := by
  have h1 := putU_len10 (show l.length ≤ 18446744073709551615 by omega)
  have h2 := zjoin_len _ (dturn_in (way := way) h)
  have h3 := putU_pos l.length
  rw [dturn_len] at h2
  simp only [denc, List.length_append]
  omega

/-! ### reading -/
/-- What the next integer is added to. -/
def dbase (way : Nat) (out : List Int) : Int :=
  if 2 ≤ way ∧ 2 ≤ out.length then 2 * out.getD (out.length - 1) 0 - out.getD (out.length - 2) 0
  else if 1 ≤ way ∧ 1 ≤ out.length then out.getD (out.length - 1) 0 else 0
/-- So many integers more: those read, the place, the error. -/
def dloop (b : List UInt8) (way : Nat) : Nat → Nat → List Int → List Int × Nat × Nat
  | 0, at_, out => (out, at_, 0)
  | c + 1, at_, out =>
    if (readU b at_).2.2 ≠ 0 then ([], 0, (readU b at_).2.2)
    else if inB (dbase way out + zagI (readU b at_).1) = true then dloop b way c (at_ + (readU b at_).2.1) (out ++ [dbase way out + zagI (readU b at_).1])
    else ([], 0, 2)
def ddec (b : List UInt8) (way : Int) : List Int × Nat :=
  if way < 0 ∨ 2 < way then ([], 1)
  else if (readU b 0).2.2 ≠ 0 then ([], (readU b 0).2.2)
  else if 2048 < (readU b 0).1 then ([], 5)
  else if (dloop b way.toNat (readU b 0).1 (readU b 0).2.1 []).2.2 ≠ 0 then ([], (dloop b way.toNat (readU b 0).1 (readU b 0).2.1 []).2.2)
  else if (dloop b way.toNat (readU b 0).1 (readU b 0).2.1 []).2.1 < b.length then ([], 5)
  else ((dloop b way.toNat (readU b 0).1 (readU b 0).2.1 []).1, 0)

theorem dval_base {way : Nat} {l : List Int} {k : Nat} (hk : k < l.length) : dbase way (l.take k) + dval way l k = l.getD k 0 := by
  have hl : (l.take k).length = k := by rw [List.length_take]; omega
  have g : ∀ j, j < k → (l.take k).getD j 0 = l.getD j 0 := fun j hj => by
    simp [List.getD, hj]
  unfold dbase dval
  rw [hl]
  by_cases h2 : 2 ≤ way ∧ 2 ≤ k
  · rw [if_pos h2, if_pos h2, g _ (by omega), g _ (by omega)]; omega
  · rw [if_neg h2, if_neg h2]
    by_cases h1 : 1 ≤ way ∧ 1 ≤ k
    · rw [if_pos h1, if_pos h1, g _ (by omega)]; omega
    · rw [if_neg h1, if_neg h1]; omega

theorem readU_app {pre : List UInt8} {n : Nat} (hn : n ≤ 18446744073709551615) (rest : List UInt8) {k : Nat} (hk : k = pre.length) : readU (pre ++ (putU n ++ rest)) (k : Int) = (n, (putU n).length, 0) := by
  have hp := putU_pos n
  subst hk
  unfold readU
  rw [if_neg (by simp; omega), Int.toNat_natCast, List.drop_left, readAt_putU hn]

/-- Reading what was written, from the place k on. -/
theorem dloop_back (way : Nat) {l : List Int} (hl : l.all inB = true) (pre tail : List UInt8) : ∀ (c k : Nat), k + c = l.length →
    dloop (pre ++ (zjoin (dturn way l) ++ tail)) way c (pre ++ zjoin ((dturn way l).take k)).length (l.take k) = (l, (pre ++ zjoin (dturn way l)).length, 0) := by
  intro c
  induction c with
  | zero =>
    intro k hk
    have h1 : k = l.length := by omega
    subst h1
    simp only [dloop, List.take_length]
    rw [show l.length = (dturn way l).length from (dturn_len way l).symm, List.take_length]
  | succ c ih =>
    intro k hk
    have hkl : k < l.length := by omega
    have hkt : k < (dturn way l).length := by rw [dturn_len]; exact hkl
    have hx : (dturn way l)[k] = dval way l k := by
      have := dturn_get (way := way) hkl
      simpa [List.getD, List.getElem?_eq_getElem hkt] using this
    have hsp : zjoin (dturn way l) = zjoin ((dturn way l).take k) ++ (putU (zigN (dval way l k)) ++ zjoin ((dturn way l).drop (k + 1))) := by
      conv => lhs; rw [← List.take_append_drop k (dturn way l), List.drop_eq_getElem_cons hkt, hx]
      rw [zjoin_app]; rfl
    have hr : readU (pre ++ (zjoin (dturn way l) ++ tail)) (((pre ++ zjoin ((dturn way l).take k)).length : Nat) : Int) = (zigN (dval way l k), (putU (zigN (dval way l k))).length, 0) := by
      rw [hsp]
      have := readU_app (pre := pre ++ zjoin ((dturn way l).take k)) (zig_lt62 (dval_in (way := way) hl k)) (zjoin ((dturn way l).drop (k + 1)) ++ tail) rfl
      simpa [List.append_assoc] using this
    have hin : inB (l.getD k 0) = true := inB_iff.2 (all_get hl k)
    have hg : l.getD k 0 = l[k] := by simp [List.getD, List.getElem?_eq_getElem hkl]
    simp only [dloop, hr, zag_zig, dval_base hkl, hin]
    rw [if_neg (by simp), if_pos trivial]
    have e1 : (pre ++ zjoin ((dturn way l).take k)).length + (putU (zigN (dval way l k))).length = (pre ++ zjoin ((dturn way l).take (k + 1))).length := by
      rw [take_snoc _ _ hkt, zjoin_snoc, hx, ← List.append_assoc, List.length_append (bs := putU _)]
    have e2 : l.take k ++ [l.getD k 0] = l.take (k + 1) := by rw [take_snoc _ _ hkl, hg]
    rw [e1, e2]
    exact ih (k + 1) (by omega)

theorem way_nat {way : Int} (h : ¬ (way < 0 ∨ 2 < way)) : ∃ v : Nat, way = (v : Int) ∧ v ≤ 2 := ⟨way.toNat, by omega, by omega⟩

theorem ddec_tail {way : Int} {l : List Int} (hw : ¬ (way < 0 ∨ 2 < way)) (hl : l.all inB = true) (h : l.length ≤ 2048) (tail : List UInt8) :
    ddec (denc way.toNat l ++ tail) way = if tail = [] then (l, 0) else ([], 5) := by
  have hr : readU (denc way.toNat l ++ tail) 0 = (l.length, (putU l.length).length, 0) := by
    have := readU_app (pre := []) (show l.length ≤ 18446744073709551615 by omega) (zjoin (dturn way.toNat l) ++ tail) (k := 0) rfl
    simpa [denc, List.append_assoc] using this
  have hd := dloop_back way.toNat hl (putU l.length) tail l.length 0 (by omega)
  have hd2 : dloop (denc way.toNat l ++ tail) way.toNat l.length (putU l.length).length [] = (l, (denc way.toNat l).length, 0) := by
    simpa [denc, List.append_assoc, zjoin] using hd
  unfold ddec
  rw [if_neg hw, hr]
  simp only [hd2]
  rw [if_neg (by simp), if_neg (by omega), if_neg (by simp)]
  cases tail with
  | nil => simp
  | cons x r => simp
theorem ddec_back {way : Int} {l : List Int} (hw : ¬ (way < 0 ∨ 2 < way)) (hl : l.all inB = true) (h : l.length ≤ 2048) : ddec (denc way.toNat l) way = (l, 0) := by
  have := ddec_tail hw hl h []
  simpa using this

/-! ### cut short -/
/-- A number's bytes, cut, end too soon. -/
theorem readAt_cut {n : Nat} (hn : n ≤ 18446744073709551615) {j : Nat} (hj : j < (putU n).length) : readAt ((putU n).take j) = (0, 0, 3) := by
  obtain ⟨pre, x, h1, h2, h3, h4, h5, h6⟩ := putU_form n n (Nat.le_refl _)
  have hlen := putU_len10 hn
  have hpl : (putU n).length = pre.length + 1 := by rw [h1]; simp
  have e : (putU n).take j = pre.take j := by rw [h1, List.take_append_of_le_length (by omega)]
  rw [e]
  refine readAt_short (by rw [List.length_take]; omega) fun i hi => ?_
  rw [List.length_take] at hi
  have hm : pre[i] ∈ pre := List.getElem_mem (by omega)
  have hg : (pre.take j).getD i 0 = pre[i] := by simp [List.getD, show i < j by omega, List.getElem?_eq_getElem (show i < pre.length by omega)]
  rw [hg]; exact h2 _ hm

theorem readU_cut {pre : List UInt8} {n : Nat} (hn : n ≤ 18446744073709551615) {j k : Nat} (hj : j < (putU n).length) (hk : k = pre.length) : readU (pre ++ (putU n).take j) (k : Int) = (0, 0, 3) := by
  subst hk
  unfold readU
  by_cases h0 : j = 0
  · subst h0; rw [if_pos (by simp)]
  · rw [if_neg (by simp; omega), Int.toNat_natCast, List.drop_left, readAt_cut hn hj]

theorem dloop_cut (way : Nat) {l : List Int} (hl : l.all inB = true) (pre : List UInt8) : ∀ (c k : Nat), k + c = l.length → ∀ j, j < (zjoin ((dturn way l).drop k)).length →
    (dloop (pre ++ (zjoin ((dturn way l).take k) ++ (zjoin ((dturn way l).drop k)).take j)) way c (pre ++ zjoin ((dturn way l).take k)).length (l.take k)).2.2 = 3 := by
  intro c
  induction c with
  | zero =>
    intro k hk j hj
    have : (dturn way l).drop k = [] := List.drop_eq_nil_of_le (by rw [dturn_len]; omega)
    rw [this] at hj
    simp [zjoin] at hj
  | succ c ih =>
    intro k hk j hj
    have hkl : k < l.length := by omega
    have hkt : k < (dturn way l).length := by rw [dturn_len]; exact hkl
    have hx : (dturn way l)[k] = dval way l k := by
      have := dturn_get (way := way) hkl
      simpa [List.getD, List.getElem?_eq_getElem hkt] using this
    have hz := zig_lt62 (dval_in (way := way) hl k)
    have hdr : zjoin ((dturn way l).drop k) = putU (zigN (dval way l k)) ++ zjoin ((dturn way l).drop (k + 1)) := by rw [List.drop_eq_getElem_cons hkt, hx]; rfl
    rcases Nat.lt_or_ge j (putU (zigN (dval way l k))).length with h | h
    · have e : (zjoin ((dturn way l).drop k)).take j = (putU (zigN (dval way l k))).take j := by rw [hdr, List.take_append_of_le_length (by omega)]
      have hr := readU_cut (pre := pre ++ zjoin ((dturn way l).take k)) hz h rfl
      rw [e, ← List.append_assoc]
      simp only [dloop, hr]
      rw [if_pos (by simp)]
    · have e : (zjoin ((dturn way l).drop k)).take j = putU (zigN (dval way l k)) ++ (zjoin ((dturn way l).drop (k + 1))).take (j - (putU (zigN (dval way l k))).length) := by
        rw [hdr, List.take_append, List.take_of_length_le h]
      have hr := readU_app (pre := pre ++ zjoin ((dturn way l).take k)) hz ((zjoin ((dturn way l).drop (k + 1))).take (j - (putU (zigN (dval way l k))).length)) rfl
      have hin : inB (l.getD k 0) = true := inB_iff.2 (all_get hl k)
      have hg : l.getD k 0 = l[k] := by simp [List.getD, List.getElem?_eq_getElem hkl]
      rw [e, ← List.append_assoc]
      simp only [dloop, hr, zag_zig, dval_base hkl, hin]
      rw [if_neg (by simp), if_pos trivial]
      have e1 : (pre ++ zjoin ((dturn way l).take k)).length + (putU (zigN (dval way l k))).length = (pre ++ zjoin ((dturn way l).take (k + 1))).length := by
        rw [take_snoc _ _ hkt, zjoin_snoc, hx, ← List.append_assoc, List.length_append (bs := putU _)]
      have e2 : l.take k ++ [l.getD k 0] = l.take (k + 1) := by rw [take_snoc _ _ hkl, hg]
      have e3 : zjoin ((dturn way l).take k) ++ putU (zigN (dval way l k)) = zjoin ((dturn way l).take (k + 1)) := by rw [take_snoc _ _ hkt, zjoin_snoc, hx]
      have hj2 : j - (putU (zigN (dval way l k))).length < (zjoin ((dturn way l).drop (k + 1))).length := by
        rw [hdr, List.length_append] at hj; omega
      have := ih (k + 1) (by omega) _ hj2
      rw [e1, e2]
      rw [show pre ++ zjoin ((dturn way l).take k) ++ (putU (zigN (dval way l k)) ++ (zjoin ((dturn way l).drop (k + 1))).take (j - (putU (zigN (dval way l k))).length)) = pre ++ (zjoin ((dturn way l).take (k + 1)) ++ (zjoin ((dturn way l).drop (k + 1))).take (j - (putU (zigN (dval way l k))).length)) by rw [← e3]; simp [List.append_assoc]]
      exact this

theorem ddec_cut {way : Int} {l : List Int} (hw : ¬ (way < 0 ∨ 2 < way)) (hl : l.all inB = true) (h : l.length ≤ 2048) {j : Nat} (hj : j < (denc way.toNat l).length) :
    ddec ((denc way.toNat l).take j) way = ([], 3) := by
  have hn : l.length ≤ 18446744073709551615 := by omega
  unfold ddec
  rw [if_neg hw]
  rcases Nat.lt_or_ge j (putU l.length).length with h1 | h1
  · have e : (denc way.toNat l).take j = [] ++ (putU l.length).take j := by rw [denc, List.take_append_of_le_length (by omega), List.nil_append]
    have hr := readU_cut (pre := []) hn h1 (k := 0) rfl
    rw [← e] at hr
    have hr' : readU ((denc way.toNat l).take j) 0 = (0, 0, 3) := hr
    rw [hr']
    simp
  · have e : (denc way.toNat l).take j = putU l.length ++ (zjoin (dturn way.toNat l)).take (j - (putU l.length).length) := by
      rw [denc, List.take_append, List.take_of_length_le h1]
    have hr : readU ((denc way.toNat l).take j) 0 = (l.length, (putU l.length).length, 0) := by
      rw [e]
      exact readU_app (pre := []) hn _ (k := 0) rfl
    have hj2 : j - (putU l.length).length < (zjoin ((dturn way.toNat l).drop 0)).length := by
      rw [denc, List.length_append] at hj
      simp only [List.drop_zero]
      omega
    have hd := dloop_cut way.toNat hl (putU l.length) l.length 0 (by omega) _ hj2
    simp only [List.take_zero, List.drop_zero, zjoin, List.nil_append, List.append_nil] at hd
    rw [← e] at hd
    rw [hr]
    simp only [hd]
    rw [if_neg (by simp), if_neg (by omega), if_pos (by simp)]
end Go.Proofs.Ytpenjandhgcgeaa
