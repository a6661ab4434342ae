/- Contracts of the package delta (chapter 4) and of its reference: Encode, Best; the law's lives. -/
import Derived.Test.YtpenjandhgcgeaaDelB
namespace Go.Proofs.Ytpenjandhgcgeaa
open Go.RowKit

def dEncR (l : List Int) (way : Int) : List UInt8 × Nat := if dcheck l way = 0 then (denc way.toNat l, 0) else ([], dcheck l way)
theorem dEncR_bad {l : List Int} {way : Int} (h : dcheck l way ≠ 0) : dEncR l way = ([], dcheck l way) := by unfold dEncR; rw [if_neg h]
theorem dEncR_ok {l : List Int} {v : Nat} (h : dcheck l (v : Int) = 0) : dEncR l (v : Int) = (denc v l, 0) := by unfold dEncR; rw [if_pos h, Int.toNat_natCast]
theorem own_app8 {w : World} {base n m : Nat} {t : TypeId} {v : Value} {l r : List UInt8} (h : w.ownsRow base t 1 v (n + m) (l.map byteV ++ r.map byteV)) (hn : n = l.length) (hm : m = r.length) :
    w.ownsRow base t 1 v (l ++ r).length ((l ++ r).map byteV) := by subst hn; subst hm; simpa using h
theorem zjoin_next {T : List Int} {k : Nat} {p : List UInt8} {x : Int} (hk : k < T.length) (hx : x = T.getD k 0) : (p ++ zjoin (T.take k)) ++ putU (zigN x) = p ++ zjoin (T.take (k + 1)) := by
  rw [take_getD hk, zjoin_snoc, hx, List.append_assoc]
theorem zjoin_room {T : List Int} (h : ∀ x ∈ T, -4611686018427387904 ≤ x ∧ x ≤ 4611686018427387904) (k : Nat) {p : List UInt8} (hp : p.length ≤ 10) (hT : T.length ≤ 2048) : (p ++ zjoin (T.take k)).length ≤ 20490 := by
  have h1 := zjoin_len (T.take k) (fun x hx => h x (List.mem_of_mem_take hx))
  have h2 : (T.take k).length ≤ T.length := by rw [List.length_take]; omega
  rw [List.length_append]; omega
theorem getD_in {T : List Int} (h : ∀ x ∈ T, -4611686018427387904 ≤ x ∧ x ≤ 4611686018427387904) (k : Nat) : -4611686018427387904 ≤ T.getD k 0 ∧ T.getD k 0 ≤ 4611686018427387904 := by
  rcases Nat.lt_or_ge k T.length with h1 | h1
  · simpa [List.getD, List.getElem?_eq_getElem h1] using h _ (List.getElem_mem h1)
  · have e : T.getD k 0 = 0 := by simp [List.getD, List.getElem?_eq_none h1]
    rw [e]; omega
theorem putU_len10' {n : Nat} (h : n ≤ 2048) : (putU n).length ≤ 10 := putU_len10 (by omega)

set_option maxRecDepth 100000 in
set_option maxHeartbeats 800000 in
theorem encode_calls (w : World) {B c : Nat} {A : Option Addr} {l : List Int} (way : Int) (h : I64s w B A l) (hB : B ≤ w.heap.size) (hn : l.length ≤ 140737488355328) :
    Calls Try.prog 11 #[.slice A l.length c, .int .i64 way] w (RetBE w (dEncR l way)) := by
  have hcall := turn_calls w (c := c) way h hB hn
  by_cases hd : dcheck l way = 0
  · obtain ⟨hw, hl, ha⟩ := dcheck_0 hd
    obtain ⟨v, rfl, hv⟩ := way_nat hw
    rw [dTurnR_ok hd] at hcall
    have HC := Lib.hid hcall
    have HR := Lib.hid (dEncR_ok hd)
    have HT := Lib.hid (dturn_len v l)
    have HI := Lib.hid (dturn_in (way := v) ha)
    have HE : Hid (denc v l = putU l.length ++ zjoin (dturn v l)) := Lib.hid rfl
    clear hd hw hcall ha
    go_enter Try.func11, Try.ntmps11
    go_wp2_with fail
    refine HC.out.mono ?_
    rintro e w1 he
    obtain ⟨A1, c1, rfl, hc1, hm1, hr1, hbel1, -⟩ := he.opened
    clear he
    dsimp only at hc1 hr1 ⊢
    generalize hTn : dturn v l = T at *
    clear hTn
    have hTl : T.length ≤ 2048 := by rw [HT.out]; exact hl
    have HL := Lib.hid (HT.out.symm)
    go_wp2_with fail
    refine (putU_calls T.length w1 (putU_len10' hTl)).mono ?_
    rintro e w2 he2
    obtain ⟨A2, c2, rfl, hc2, hm2, hb2, hbel2, hown2⟩ := he2.opened
    clear he2
    have hp := putU_len10' hTl
    have hr2 := hr1.below hbel2
    have s1 := hbel1.size
    have s2 := hbel2.size
    have hbel12 := hbel1.trans (hbel2.mono s1)
    rw [HL.out] at HE
    generalize putU T.length = p at *
    go_wp2
    go_loopw [8, 26] (fun out i wr => ∃ (k : Nat), k ≤ T.length ∧ i = .int .i64 (k : Int) ∧ wr.ownsRow w1.heap.size 5 1 out (p ++ zjoin (T.take k)).length ((p ++ zjoin (T.take k)).map byteV) ∧ Below w1.heap.size w1 wr) (fun _ i _ => T.length - (intOf i).toNat)
    case atStart => exact ⟨0, by omega, rfl, by simpa [zjoin] using hown2, hbel2⟩
    case round =>
      obtain ⟨k, hk, rfl, hown, hbW⟩ := hrel
      by_cases hlt : k < T.length
      · obtain ⟨b, off, rfl, hbB, hcell⟩ := (hr1.below hbW).cell (by omega)
        have c0 := hcell k hlt
        have hz := getD_in HI.out k
        have hlen := zjoin_room HI.out k hp hTl
        have Hnx : Hid (∀ x, x = T.getD k 0 → (p ++ zjoin (T.take k)) ++ putU (zigN x) = p ++ zjoin (T.take (k + 1))) := Lib.hid fun x hx => zjoin_next hlt hx
        have Hnx := Lib.hid (Hnx.out _ rfl)
        clear hcell hown2
        generalize T.getD k 0 = x at *
        have hpz := putU_len10 (zig_lt62 hz)
        generalize p ++ zjoin (T.take k) = D at *
        go_wp2_with fail
        refine (putI_calls x wr (by omega) (by omega) hpz).mono ?_
        rintro e w3 he3
        obtain ⟨A3, c3, rfl, hc3, hm3, hb3, hbel3, -⟩ := he3.opened
        clear he3
        have hown3 := own_below hown hbel3
        have s3 := hbel3.size
        have s5 := hbW.size
        clear hown
        go_wp2_with (at_builtin; go_must (refine wpList_append_any _ rfl (.tmp 30) (.tmp 32) _ rfl w1.heap.size 5 _ 1 1 Try.underlying27 Try.infoU8 rfl (by omega) _ _ _ rfl hown3 w3.heap.size A3 _ c3 ((putU (zigN x)).map byteV) rfl hb3.2 (byteV_one _) (by unfold maxLen; omega) (by omega) (by omega) ?_))
        intro v' w4 hown4 hbel4 hgr4 hob4
        have hown5 := own_app8 hown4 rfl rfl
        rw [Hnx.out] at hown5
        have hbWF : Below w1.heap.size w1 w4 := hbW.trans ((hbel3.mono s5).trans hbel4)
        clear hown3 hown4
        go_wp2
        go_roundw
        case rel => exact ⟨k + 1, by omega, by go_num, hown5, hbWF⟩
        case measure => simp [intOf]; omega
      · have e : T.take k = T := List.take_of_length_le (by omega)
        rw [e, ← HE.out] at hown
        clear e
        go_wp2
        go_ret2
        rw [HR.out]
        exact ⟨_, rfl, own_base hown s1, hbel1.trans (hbW.mono s1)⟩
  · rw [dTurnR_bad hd] at hcall
    have HC := Lib.hid hcall
    have HR := Lib.hid (dEncR_bad hd)
    have q : (((dcheck l way : Nat) : Int) != 0) = true := net (by omega)
    clear hd hcall
    generalize dcheck l way = d at *
    go_enter Try.func11, Try.ntmps11
    go_wp2_with fail
    refine HC.out.mono ?_
    rintro e w1 he
    obtain ⟨A1, c1, rfl, -, -, -, hbel1, -⟩ := he.opened
    clear he
    go_wp2
    go_ret2
    rw [HR.out]
    exact ⟨_, rfl, World.ownsRow_nil _ _ _ _, hbel1⟩

theorem apart_kept {w w' : World} {base : Nat} {e : TypeId} {size n a b : Nat} {tv ov : Value} {xs : List Value} (h : w.ownsRow base e size tv n xs) (hg : w.grownBy w' ov.ownBlock)
    (h1 : ∀ g, tv.ownBlock = some g → a ≤ g ∧ g < b) (h2 : ∀ g, ov.ownBlock = some g → g < a ∨ b ≤ g) : w'.ownsRow base e size tv n xs := by
  refine h.kept hg ?_
  rcases ht : tv.ownBlock with _ | g
  · exact .inl rfl
  · right
    intro e'
    have k1 := h1 g ht
    have k2 := h2 g e'.symm
    omega

set_option maxRecDepth 100000 in
set_option maxHeartbeats 800000 in
theorem encodeR_calls (w : World) {B c : Nat} {A : Option Addr} {l : List Int} (v : Nat) (h : I64s w B A l) (hB : B ≤ w.heap.size) (hl : l.length ≤ 2048) (hv : v ≤ 2) (ha : l.all inB = true) :
    Calls Try.prog 16 #[.slice A l.length c, .int .i64 (v : Int)] w (RetBytes 5 w (denc v l)) := by
  have HT := Lib.hid (dturn_len v l)
  have HI := Lib.hid (dturn_in (way := v) ha)
  have HE : Hid (denc v l = putU l.length ++ zjoin (dturn v l)) := Lib.hid rfl
  have HC := fun (wx : World) (hb : Below w.heap.size w wx) => turnR_calls wx (c := c) v (h.below (hb.mono hB)) (Nat.le_trans hB hb.size) hl hv ha
  have HC := Lib.hid HC
  generalize hTn : dturn v l = T at *
  clear hTn ha
  have hTl : T.length ≤ 2048 := by rw [HT.out]; exact hl
  have hp := putU_len10' hl
  go_enter Try.func16, Try.ntmps16
  go_wp2_with fail
  refine (putURef_calls l.length w hp (by omega)).mono ?_
  rintro e w1 he
  obtain ⟨A1, c1, rfl, hc1, hm1, hb1, hbel1, hown1⟩ := he.opened
  clear he
  have s1 := hbel1.size
  go_wp2_with fail
  refine (HC.out w1 hbel1).mono ?_
  rintro e w2 he2
  obtain ⟨A2, c2, rfl, hc2, hm2, -, hbel2, hownT⟩ := he2.opened
  clear he2
  have s2 := hbel2.size
  have hown2 := own_below hown1 hbel2
  have hg1 : ∀ g, (Value.slice A1 (putU l.length).length c1).ownBlock = some g → g < w1.heap.size ∨ w2.heap.size ≤ g := fun g hg => .inl (hown1.lt g hg).2
  have hg2 := hownT.lt
  have HG2 := Lib.hid hg2
  have HG1 := Lib.hid hg1
  generalize putU l.length = p at *
  clear hown1 hg1 hg2
  have hbel12 := hbel1.trans (hbel2.mono s1)
  go_wp2
  go_loopw [5, 16] (fun out i wr => ∃ (k : Nat), k ≤ T.length ∧ i = .int .i64 (k : Int) ∧ wr.ownsRow w.heap.size 5 1 out (p ++ zjoin (T.take k)).length ((p ++ zjoin (T.take k)).map byteV) ∧ Hid (∀ g, out.ownBlock = some g → g < w1.heap.size ∨ w2.heap.size ≤ g) ∧ wr.ownsRow w1.heap.size 2 1 (.slice A2 T.length c2) T.length (T.map (Value.int .i64)) ∧ Below w.heap.size w wr ∧ w2.heap.size ≤ wr.heap.size) (fun _ i _ => T.length - (intOf i).toNat)
  case atStart => exact ⟨0, by omega, rfl, by simpa [zjoin] using hown2, HG1, hownT, hbel12, Nat.le_refl _⟩
  case round =>
    obtain ⟨k, hk, rfl, hown, HO, hownT, hbel, s3⟩ := hrel
    by_cases hlt : k < T.length
    · obtain ⟨b, off, rfl, hbB, hcell⟩ := (own_i64 hownT).cell (by omega)
      have c0 := hcell k hlt
      have hz := getD_in HI.out k
      have hlen := zjoin_room HI.out k hp hTl
      have Hnx : Hid (∀ x, x = T.getD k 0 → (p ++ zjoin (T.take k)) ++ putU (zigN x) = p ++ zjoin (T.take (k + 1))) := Lib.hid fun x hx => zjoin_next hlt hx
      have Hnx := Lib.hid (Hnx.out _ rfl)
      clear hcell hown2
      generalize T.getD k 0 = x at *
      have hz2 := zig_lt62 hz
      have hpz := putU_len10 hz2
      generalize p ++ zjoin (T.take k) = D at *
      go_wp2_with fail
      refine (zigR_calls x wr (by omega) (by omega)).mono ?_
      rintro e w' ⟨rfl, rfl⟩
      go_wp2_with fail
      refine (putURef_calls (zigN x) wr hpz hz2).mono ?_
      rintro e w3 he3
      obtain ⟨A3, c3, rfl, hc3, hm3, hb3, hbel3, -⟩ := he3.opened
      clear he3
      have hown3 := own_below hown hbel3
      have hownT3 := own_below hownT hbel3
      have s4 := hbel3.size
      have s5 := hbel.size
      clear hown hownT
      go_wp2_with (at_builtin; go_must (refine wpList_append_any _ rfl (.tmp 20) (.tmp 23) _ rfl w.heap.size 5 _ 1 1 Try.underlying27 Try.infoU8 rfl (by omega) _ _ _ rfl hown3 w3.heap.size A3 _ c3 ((putU (zigN x)).map byteV) rfl hb3.2 (byteV_one _) (by unfold maxLen; omega) (by omega) (by omega) ?_))
      intro v' w4 hown4 hbel4 hgr4 hob4
      have hown5 := own_app8 hown4 rfl rfl
      rw [Hnx.out] at hown5
      have hbelF : Below w.heap.size w w4 := hbel.trans ((hbel3.mono s5).trans hbel4)
      have hownT4 := apart_kept hownT3 hgr4 HG2.out HO.out
      have HO4 : Hid (∀ g, v'.ownBlock = some g → g < w1.heap.size ∨ w2.heap.size ≤ g) := Lib.hid fun g hg => by
        rcases hob4 with h | h
        · exact HO.out g (h ▸ hg)
        · rw [hg] at h; injection h with h; omega
      have s6 := hgr4.size
      clear hown3 hown4 hownT3 hob4
      go_wp2
      go_roundw
      case rel => exact ⟨k + 1, by omega, by go_num, hown5, HO4, hownT4, hbelF, by omega⟩
      case measure => simp [intOf]; omega
    · have e : T.take k = T := List.take_of_length_le (by omega)
      rw [e, ← HE.out] at hown
      clear e
      go_wp2
      go_ret
      exact ⟨_, rfl, hown, hbel⟩

/-! ### the way of the fewest bytes -/
/-- The best of the first k ways. -/
def dbst (l : List Int) : Nat → Nat
  | 0 => 0
  | k + 1 => if (denc k l).length < (denc (dbst l k) l).length then k else dbst l k
def dbest (l : List Int) : Nat := if dcheck l 0 = 0 then dbst l 3 else 0
theorem dbst_yes {l : List Int} {k : Nat} (h : (denc k l).length < (denc (dbst l k) l).length) : dbst l (k + 1) = k := by simp only [dbst]; rw [if_pos h]
theorem dbst_no {l : List Int} {k : Nat} (h : ¬ (denc k l).length < (denc (dbst l k) l).length) : dbst l (k + 1) = dbst l k := by simp only [dbst]; rw [if_neg h]
theorem dbst_le (l : List Int) : ∀ k, dbst l k ≤ k - 1
  | 0 => by simp [dbst]
  | k + 1 => by
    have := dbst_le l k
    by_cases h : (denc k l).length < (denc (dbst l k) l).length
    · rw [dbst_yes h]; omega
    · rw [dbst_no h]; omega
theorem dbst_1 (l : List Int) : dbst l 1 = 0 := dbst_no (by simp [dbst])
theorem dbst_min (l : List Int) : ∀ k j, j < k → (denc (dbst l k) l).length ≤ (denc j l).length ∧ (j < dbst l k → (denc (dbst l k) l).length < (denc j l).length)
  | 0, j, h => absurd h (by omega)
  | k + 1, j, h => by
    by_cases h1 : (denc k l).length < (denc (dbst l k) l).length
    · rw [dbst_yes h1]
      rcases Nat.lt_or_ge j k with h2 | h2
      · have := (dbst_min l k j h2).1
        exact ⟨by omega, fun _ => by omega⟩
      · obtain rfl : j = k := by omega
        exact ⟨Nat.le_refl _, fun h => absurd h (by omega)⟩
    · rw [dbst_no h1]
      rcases Nat.lt_or_ge j k with h2 | h2
      · exact dbst_min l k j h2
      · obtain rfl : j = k := by omega
        refine ⟨by omega, fun h => ?_⟩
        have := dbst_le l j
        omega
theorem dcheck_way {l : List Int} {a : Int} (h : dcheck l 0 = 0) (ha : ¬ (a < 0 ∨ 2 < a)) : dcheck l a = 0 := by
  obtain ⟨_, h2, h3⟩ := dcheck_0 h
  exact dcheck_ok ha (by omega) h3
theorem dcheck_err {l : List Int} (h : dcheck l 0 ≠ 0) : (((dcheck l 0 : Nat) : Int) != 0) = true := net (by omega)
theorem dbest_ok {l : List Int} (h : dcheck l 0 = 0) : dbest l = dbst l 3 := by unfold dbest; rw [if_pos h]
theorem dbest_bad {l : List Int} (h : dcheck l 0 ≠ 0) : dbest l = 0 := by unfold dbest; rw [if_neg h]

set_option maxRecDepth 100000 in
set_option maxHeartbeats 800000 in
theorem best_calls (w : World) {B c : Nat} {A : Option Addr} {l : List Int} (h : I64s w B A l) (hB : B ≤ w.heap.size) (hn : l.length ≤ 140737488355328) :
    Calls Try.prog 17 #[.slice A l.length c] w fun e w' => e = .returned (.int .i64 ((dbest l : Nat) : Int)) ∧ Below w.heap.size w w' := by
  by_cases hd : dcheck l 0 = 0
  · have HR := Lib.hid (dbest_ok hd)
    have HC : Hid (∀ (k : Nat) (wx : World), k ≤ 2 → Below w.heap.size w wx → Calls Try.prog 11 #[.slice A l.length c, .int .i64 (k : Int)] wx (RetBE wx (denc k l, 0))) := Lib.hid fun k wx hk hb => by
      have := encode_calls wx (c := c) (k : Int) (h.below (hb.mono hB)) (Nat.le_trans hB hb.size) hn
      rwa [dEncR_ok (dcheck_way hd (by omega))] at this
    clear hd
    have HY := fun k => Lib.hid (@dbst_yes l k)
    have HN := fun k => Lib.hid (@dbst_no l k)
    have H1 := Lib.hid (dbst_1 l)
    have hle : dbst l 3 ≤ 2 := dbst_le l 3
    go_enter Try.func17, Try.ntmps17
    go_wp2
    go_loopw [3, 4, 5] (fun b le i wr => ∃ k : Nat, k ≤ 3 ∧ i = .int .i64 (k : Int) ∧ b = .int .i64 ((dbst l k : Nat) : Int) ∧ ((k = 0 ∧ le = .int .i64 (-1)) ∨ (1 ≤ k ∧ le = .int .i64 ((denc (dbst l k) l).length : Int))) ∧ Below w.heap.size w wr) (fun _ _ i _ => 3 - (intOf i).toNat)
    case atStart => exact ⟨0, by omega, rfl, rfl, .inl ⟨rfl, rfl⟩, Below.refl _ _⟩
    case round =>
      obtain ⟨k, hk, rfl, rfl, hle2, hbel⟩ := hrel
      by_cases hlt : k ≤ 2
      · rcases hle2 with ⟨hk0, rfl⟩ | ⟨hk1, rfl⟩
        · have Hb : Hid (dbst l (k + 1) = k) := Lib.hid (by rw [hk0]; exact H1.out)
          have s1 := hbel.size
          clear hk0
          go_wp2_with fail
          refine (HC.out k wr hlt hbel).mono ?_
          rintro e w2 he
          obtain ⟨A2, c2, rfl, -, -, -, hbel2, -⟩ := he.opened
          clear he
          dsimp only at ⊢
          go_wp2
          go_roundw
          case rel => exact ⟨k + 1, by omega, by go_num, by rw [Hb.out], .inr ⟨by omega, by rw [Hb.out]⟩, hbel.trans (hbel2.mono s1)⟩
          case measure => simp [intOf]; omega
        · have HYk := HY k
          have HNk := HN k
          have s1 := hbel.size
          generalize dbst l k = bk at *
          by_cases hb : (denc k l).length < (denc bk l).length
          · have Hb := Lib.hid (HYk.out hb)
            go_wp2_with fail
            refine (HC.out k wr hlt hbel).mono ?_
            rintro e w2 he
            obtain ⟨A2, c2, rfl, -, -, -, hbel2, -⟩ := he.opened
            clear he
            dsimp only at ⊢
            go_wp2
            go_roundw
            case rel => exact ⟨k + 1, by omega, by go_num, by rw [Hb.out], .inr ⟨by omega, by rw [Hb.out]⟩, hbel.trans (hbel2.mono s1)⟩
            case measure => simp [intOf]; omega
          · have Hb := Lib.hid (HNk.out hb)
            go_wp2_with fail
            refine (HC.out k wr hlt hbel).mono ?_
            rintro e w2 he
            obtain ⟨A2, c2, rfl, -, -, -, hbel2, -⟩ := he.opened
            clear he
            dsimp only at ⊢
            go_wp2
            go_roundw
            case rel => exact ⟨k + 1, by omega, by go_num, by rw [Hb.out], .inr ⟨by omega, by rw [Hb.out]⟩, hbel.trans (hbel2.mono s1)⟩
            case measure => simp [intOf]; omega
      · obtain rfl : k = 3 := by omega
        go_wp2
        go_ret
        exact ⟨by rw [HR.out]; rfl, hbel⟩
  · have HR := Lib.hid (dbest_bad hd)
    have hcall := encode_calls w (c := c) 0 h hB hn
    rw [dEncR_bad hd] at hcall
    have HC := Lib.hid hcall
    have q := dcheck_err hd
    clear hd hcall
    generalize dcheck l 0 = d at *
    go_enter Try.func17, Try.ntmps17
    go_wp2
    go_loopw [3, 4, 5] (fun b le i wr => i = .int .i64 0 ∧ wr = w) (fun _ _ _ _ => 0)
    case atStart => exact ⟨rfl, rfl⟩
    case round =>
      obtain ⟨rfl, rfl⟩ := hrel
      go_wp2_with fail
      refine HC.out.mono ?_
      rintro e w2 he
      obtain ⟨A2, c2, rfl, -, -, -, hbel2, -⟩ := he.opened
      clear he
      dsimp only at ⊢
      go_wp2
      go_ret
      exact ⟨by rw [HR.out]; rfl, hbel2⟩

set_option maxRecDepth 100000 in
set_option maxHeartbeats 800000 in
theorem bestR_calls (w : World) {B c : Nat} {A : Option Addr} {l : List Int} (h : I64s w B A l) (hB : B ≤ w.heap.size) (hn : l.length ≤ 140737488355328) :
    Calls Try.prog 18 #[.slice A l.length c] w fun e w' => e = .returned (.int .i64 ((dbest l : Nat) : Int)) ∧ Below w.heap.size w w' := by
  have hchk := checkR_calls w (c := c) 0 h hn
  by_cases hd : dcheck l 0 = 0
  · rw [hd] at hchk
    have HK := Lib.hid hchk
    have HR := Lib.hid (dbest_ok hd)
    obtain ⟨_, hl, ha⟩ := dcheck_0 hd
    have HC : Hid (∀ (k : Nat) (wx : World), k ≤ 2 → Below w.heap.size w wx → Calls Try.prog 16 #[.slice A l.length c, .int .i64 (k : Int)] wx (RetBytes 5 wx (denc k l))) := Lib.hid fun k wx hk hb => encodeR_calls wx (c := c) k (h.below (hb.mono hB)) (Nat.le_trans hB hb.size) hl hk ha
    clear hd hchk ha
    have HY := fun k => Lib.hid (@dbst_yes l k)
    have HN := fun k => Lib.hid (@dbst_no l k)
    have H1 := Lib.hid (dbst_1 l)
    have HL := Lib.hid (dbst_le l)
    go_enter Try.func18, Try.ntmps18
    go_wp2_with fail
    refine HK.out.mono ?_
    rintro e w' ⟨rfl, rfl⟩
    go_wp2
    go_loopw [3, 4] (fun b i wr => ∃ k : Nat, 1 ≤ k ∧ k ≤ 3 ∧ i = .int .i64 (k : Int) ∧ b = .int .i64 ((dbst l k : Nat) : Int) ∧ Below w.heap.size w wr) (fun _ i _ => 3 - (intOf i).toNat)
    case atStart => exact ⟨1, by omega, by omega, rfl, by rw [H1.out]; rfl, Below.refl _ _⟩
    case round =>
      obtain ⟨k, hk1, hk, rfl, rfl, hbel⟩ := hrel
      by_cases hlt : k ≤ 2
      · have HYk := HY k
        have HNk := HN k
        have s1 := hbel.size
        have hbk := HL.out k
        generalize dbst l k = bk at *
        have hbk2 : bk ≤ 2 := by omega
        clear hbk
        by_cases hb : (denc k l).length < (denc bk l).length
        · have Hb := Lib.hid (HYk.out hb)
          go_wp2_with fail
          refine (HC.out k wr hlt hbel).mono ?_
          rintro e w2 he
          obtain ⟨A2, c2, rfl, -, -, -, hbel2, -⟩ := he.opened
          have hbel3 := hbel.trans (hbel2.mono s1)
          have s3 := hbel3.size
          clear he
          go_wp2_with fail
          refine (HC.out bk w2 hbk2 hbel3).mono ?_
          rintro e w4 he
          obtain ⟨A4, c4, rfl, -, -, -, hbel4, -⟩ := he.opened
          clear he
          go_wp2
          go_roundw
          case rel => exact ⟨k + 1, by omega, by omega, by go_num, by rw [Hb.out], hbel3.trans (hbel4.mono s3)⟩
          case measure => simp [intOf]; omega
        · have Hb := Lib.hid (HNk.out hb)
          go_wp2_with fail
          refine (HC.out k wr hlt hbel).mono ?_
          rintro e w2 he
          obtain ⟨A2, c2, rfl, -, -, -, hbel2, -⟩ := he.opened
          have hbel3 := hbel.trans (hbel2.mono s1)
          have s3 := hbel3.size
          clear he
          go_wp2_with fail
          refine (HC.out bk w2 hbk2 hbel3).mono ?_
          rintro e w4 he
          obtain ⟨A4, c4, rfl, -, -, -, hbel4, -⟩ := he.opened
          clear he
          go_wp2
          go_roundw
          case rel => exact ⟨k + 1, by omega, by omega, by go_num, by rw [Hb.out], hbel3.trans (hbel4.mono s3)⟩
          case measure => simp [intOf]; omega
      · obtain rfl : k = 3 := by omega
        go_wp2
        go_ret
        exact ⟨by rw [HR.out]; rfl, hbel⟩
  · have HR := Lib.hid (dbest_bad hd)
    have HK := Lib.hid hchk
    have q := dcheck_err hd
    clear hd hchk
    generalize dcheck l 0 = d at *
    go_enter Try.func18, Try.ntmps18
    go_wp2_with fail
    refine HK.out.mono ?_
    rintro e w' ⟨rfl, rfl⟩
    go_wp2
    go_ret
    exact ⟨by rw [HR.out]; rfl, Below.refl _ _⟩

/-! ### the chapter's example -/
theorem live_enc : dEncR [10, 20, 31, 31] 2 = ([4, 20, 20, 2, 21], 0) := by
  have h1 : dturn 2 [10, 20, 31, 31] = [10, 10, 1, -11] := by decide
  have h2 : dcheck [10, 20, 31, 31] 2 = 0 := by decide
  unfold dEncR
  rw [if_pos h2]
  show (denc 2 _, 0) = _
  unfold denc
  rw [h1]
  simp only [zjoin, List.length_cons, List.length_nil]
  rw [putU_lt (by decide), putU_lt (by decide), putU_lt (by decide), putU_lt (by decide)]
  decide
set_option maxRecDepth 100000 in
set_option maxHeartbeats 800000 in
theorem lives_calls (w : World) :
    Calls Try.prog 9 #[] w fun e w' => e = .returned (.bool true) ∧ Below w.heap.size w w' := by
  have hown := World.ownsRow_lit (size := 1) (e := 2) w #[.int .i64 10, .int .i64 20, .int .i64 31, .int .i64 31] 4 (Nat.le_refl _) (by simp [maxLen]) rfl
  have hr : I64s (w.alloc (.cells #[.int .i64 10, .int .i64 20, .int .i64 31, .int .i64 31] 2)) (w.heap.size + 1) (some ⟨w.heap.size, 0, none⟩) [10, 20, 31, 31] := by
    have := Reads.of_own hown
    rw [World.size_alloc] at this
    exact this
  have hcall := encode_calls _ (c := 4) 2 hr (by rw [World.size_alloc]; exact Nat.le_refl _) (by simp)
  rw [live_enc] at hcall
  have HC := Lib.hid hcall
  have hb1 : Below w.heap.size w (w.alloc (.cells #[.int .i64 10, .int .i64 20, .int .i64 31, .int .i64 31] 2)) := (Below.refl _ _).alloc (Nat.le_refl _) _
  have s1 := hb1.size
  clear hown hr hcall
  go_enter Try.func9, Try.ntmps9
  go_wp2_with fail
  refine HC.out.mono ?_
  rintro e w2 he
  obtain ⟨A2, c2, rfl, -, -, hby, hbel2, -⟩ := he.opened
  clear he
  dsimp only at hby ⊢
  have hby5 : Bytes w2 w2.heap.size A2 5 [4, 20, 20, 2, 21] := hby
  have k1 := hby5.conv Try.prog c2 27 5 9 Try.underlying27 Try.underlying5 Try.underlying9
  clear hby5
  have hbel := hb1.trans (hbel2.mono s1)
  clear hby
  go_wp2
  go_ret
  exact ⟨rfl, hbel⟩
end Go.Proofs.Ytpenjandhgcgeaa
