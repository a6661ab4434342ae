/- symMergeCmpFunc. -/
import Derived.Test.YtophfgijfmdbcaaProg
import Derived.Test.YtophfgijfmdbcaaSrH
namespace Go.Proofs.Ytophfgijfmdbcaa.Sr
open Go.Proofs.Ytophfgijfmdbcaa.So
open Go.RowKit
variable {α : Type} [Inhabited α]

omit [Inhabited α] in
theorem srt_take {lt : α → α → Bool} {X : List α} (h : Srt lt X) (k : Nat) : Srt lt (X.take k) := List.Pairwise.sublist (List.take_sublist _ _) h
omit [Inhabited α] in
theorem srt_drop {lt : α → α → Bool} {X : List α} (h : Srt lt X) (k : Nat) : Srt lt (X.drop k) := List.Pairwise.sublist (List.drop_sublist _ _) h

/-- The place where both lists are parted: what the halving search finds. -/
theorem part_mg {lt : α → α → Bool} (hO : Swo lt) {X Y : List α} (hX : Srt lt X) (hY : Srt lt Y) (s t : Nat) (hs : s ≤ X.length) (ht : t ≤ Y.length)
    (h1 : s = 0 ∨ Y.length ≤ t ∨ lt (gt Y t) (gt X (s - 1)) = false) (h2 : X.length ≤ s ∨ t = 0 ∨ lt (gt Y (t - 1)) (gt X s) = true) :
    mg lt X Y = mg lt (X.take s) (Y.take t) ++ mg lt (X.drop s) (Y.drop t) := by
  have e := mg_split (lt := lt) (X.take s) (Y.take t) (X.drop s) (Y.drop t) (fun x hx y hy => by
    obtain ⟨i, hi, hi2, rfl⟩ := mem_take hx
    obtain ⟨j, hj, hj2, rfl⟩ := mem_drop hy
    rcases h1 with h | h | h
    · omega
    · omega
    · exact hO.neg _ _ _ (hO.neg _ _ _ (srt_gt hO hY (i := t) (by omega) hj2) h) (srt_gt hO hX (i := i) (j := s - 1) (by omega) (by omega))) (fun x hx y hy => by
    obtain ⟨i, hi, hi2, rfl⟩ := mem_drop hx
    obtain ⟨j, hj, hj2, rfl⟩ := mem_take hy
    rcases h2 with h | h | h
    · omega
    · omega
    · exact hO.le_lt (srt_gt hO hY (i := j) (j := t - 1) (by omega) (by omega)) (hO.lt_le h (srt_gt hO hX (i := s) (by omega) hi2)))
  rw [List.take_append_drop, List.take_append_drop] at e
  exact e

/-- The contract, at lists of at most K things together. -/
def SymAt (c : α → Nat → Value) (cf : α → α → Int) (gc : FuncId) (N base g cap K : Nat) : Prop :=
  ∀ (w : World) (A X Y B : List α) (a m b : Nat), X.length + Y.length ≤ K → 0 < X.length → 0 < Y.length → RowE c w base g cap (A ++ (X ++ (Y ++ B))) → (A ++ (X ++ (Y ++ B))).length = N → a = A.length → m = a + X.length → b = m + Y.length → Srt (ltc cf) X → Srt (ltc cf) Y →
    Calls Try.prog 61 #[.slice (some ⟨g, 0, none⟩) N cap, .int .i64 (a : Int), .int .i64 (m : Int), .int .i64 (b : Int), .func (.func gc) #[] #[]] w fun e w' =>
      e = .returned (.tuple #[]) ∧ RowE c w' base g cap (A ++ (mg (ltc cf) X Y ++ B)) ∧ Only g w w'

set_option maxRecDepth 100000 in
set_option maxHeartbeats 6400000 in
theorem symC (c : α → Nat → Value) (h1 : ∀ x j, (c x j).oneCell' = true) (cf : α → α → Int) (gc : FuncId) (hcmp : CmpE c gc cf) (hent : ∀ args W, (callFunc gc args).run Try.prog W = .ok (.enter gc args) W) (hO : Swo (ltc cf))
    (N : Nat) (base g cap K : Nat) (hd : N ≤ 4398046511104) (ih : SymAt c cf gc N base g cap K) (w : World) (A X Y B : List α) (a m b : Nat) (hK : X.length + Y.length ≤ K + 1) (hX2 : 2 ≤ X.length) (hY2 : 2 ≤ Y.length) (h : RowE c w base g cap (A ++ (X ++ (Y ++ B)))) (hN : (A ++ (X ++ (Y ++ B))).length = N) (ha : a = A.length) (hm : m = a + X.length) (hb : b = m + Y.length) (hX : Srt (ltc cf) X) (hY : Srt (ltc cf) Y) :
    Calls Try.prog 61 #[.slice (some ⟨g, 0, none⟩) N cap, .int .i64 (a : Int), .int .i64 (m : Int), .int .i64 (b : Int), .func (.func gc) #[] #[]] w fun e w' =>
      e = .returned (.tuple #[]) ∧ RowE c w' base g cap (A ++ (mg (ltc cf) X Y ++ B)) ∧ Only g w w' := by
  have H1 := Lib.hid h1
  have Hcmp : Hid (CmpE c gc cf) := Lib.hid hcmp
  have Hent := Lib.hid hent
  have HR0 := Lib.hid h
  have HN := Lib.hid hN
  have HA := Lib.hid ha
  have HM := Lib.hid hm
  have HB := Lib.hid hb
  have HK := Lib.hid hK
  have HI := Lib.hid ih
  have hbN : b ≤ N := by rw [← hN, hb, hm, ha]; simp; omega
  have ham : a + 2 ≤ m := by omega
  have hmb : m + 2 ≤ b := by omega
  have em : ((m : Int) - (a : Int) == 1) = false := eqf (by omega)
  have eb : ((b : Int) - (m : Int) == 1) = false := eqf (by omega)
  obtain ⟨mid, hmid⟩ : ∃ mid : Nat, mid = (a + b) / 2 := ⟨_, rfl⟩
  have emid : ((a : Int) + (b : Int)) / 2 = (mid : Int) := by omega
  have hm1 : a + b < 2 * mid + 2 := by omega
  have hm2 : 2 * mid ≤ a + b := by omega
  have HX := Lib.hid hX
  have HY := Lib.hid hY
  clear h1 hcmp hent h hN ha hm hb hX hY hX2 hY2 hK ih hmid
  go_enter Try.func61, Try.ntmps61
  go_upto_if 140 with (fail)
  go_cut [20, 21] (fun vs vr wx => ∃ lo hi : Nat, vs = .int .i64 (lo : Int) ∧ vr = .int .i64 (hi : Int) ∧ lo ≤ hi ∧ a ≤ lo ∧ hi ≤ m ∧ hi ≤ mid ∧ mid + m ≤ lo + b ∧ Hid ((lo = a ∨ lo + b = mid + m) ∧ (hi = m ∨ hi = mid)) ∧ wx = w)
  case first =>
    by_cases hmm : mid < m
    · have i1 : (mid : Int) < (m : Int) := by omega
      have e1 : (mid : Int) + (m : Int) - (b : Int) = ((mid + m - b : Nat) : Int) := by omega
      go_wp2
      go_meet
      case rel => exact ⟨mid + m - b, mid, by first | rfl | (rw [e1]), rfl, by omega, by omega, by omega, Nat.le_refl _, by omega, Lib.hid ⟨.inr (by omega), .inr rfl⟩, rfl⟩
    · have i1 : ¬ (mid : Int) < (m : Int) := by omega
      go_wp2
      go_meet
      case rel => exact ⟨a, m, rfl, rfl, by omega, Nat.le_refl _, Nat.le_refl _, by omega, by omega, Lib.hid ⟨.inl rfl, .inl rfl⟩, rfl⟩
  case rest =>
    obtain ⟨lo, hi, rfl, rfl, hlh, halo, hhm, hhmid, hlob, HLH, rfl⟩ := hcut
    obtain ⟨p, hp⟩ : ∃ p : Nat, p + 1 = mid + m := ⟨mid + m - 1, by omega⟩
    have ep : (mid : Int) + (m : Int) - 1 = (p : Int) := by omega
    have hp1 : p + 1 ≤ mid + m := by omega
    have hp2 : mid + m ≤ p + 1 := by omega
    clear hp
    go_wp2
    go_loopw [20, 21] (fun vi vj wr => ∃ (i j : Nat), vi = .int .i64 (i : Int) ∧ vj = .int .i64 (j : Int) ∧ lo ≤ i ∧ i ≤ j ∧ j ≤ hi ∧ Hid ((i = lo ∨ ltc cf (gt Y (p + 1 - i - m)) (gt X (i - 1 - a)) = false) ∧ (j = hi ∨ ltc cf (gt Y (p - j - m)) (gt X (j - a)) = true)) ∧ Hid (RowE c wr base g cap (A ++ (X ++ (Y ++ B)))) ∧ Below wc.heap.size wc wr) (fun vi vj _ => (intOf vj).toNat - (intOf vi).toNat)
    case atStart => exact ⟨lo, hi, rfl, rfl, Nat.le_refl _, hlh, Nat.le_refl _, Lib.hid ⟨.inl rfl, .inl rfl⟩, Lib.hid HR0.out, Below.refl _ _⟩
    case round =>
      obtain ⟨i, j, rfl, rfl, hi0, hij, hj, HIJ, HR, hbel⟩ := hrel
      by_cases hlt : i < j
      · obtain ⟨h, hh⟩ : ∃ h : Nat, h = (i + j) / 2 := ⟨_, rfl⟩
        have eh : ((i : Int) + (j : Int)) / 2 = (h : Int) := by omega
        have hi1 : i ≤ h := by omega
        have hh1 : h < j := by omega
        clear hh
        have hph : h ≤ p := by omega
        have HGp : Hid (gt (A ++ (X ++ (Y ++ B))) (p - h) = gt Y (p - h - m)) := Lib.hid (by
          have hA := HA.out
          have hM := HM.out
          have hB := HB.out
          have e : A ++ (X ++ (Y ++ B)) = (A ++ X) ++ (Y ++ B) := by simp
          rw [e]
          conv => lhs; rw [show p - h = (A ++ X).length + (p - h - m) by rw [List.length_append]; omega]
          rw [gt_app_right, gt_app_left (by omega)])
        have HGh : Hid (gt (A ++ (X ++ (Y ++ B))) h = gt X (h - a)) := Lib.hid (by
          have hA := HA.out
          have hM := HM.out
          conv => lhs; rw [show h = A.length + (h - a) by omega]
          rw [gt_app_right, gt_app_left (by omega)])
        have HF : Hid (ltc cf (gt Y (p - h - m)) (gt X (h - a)) = false → ltc cf (gt Y (p + 1 - (h + 1) - m)) (gt X (h + 1 - 1 - a)) = false) := Lib.hid fun ht => by
          rw [show p + 1 - (h + 1) - m = p - h - m by omega, show h + 1 - 1 - a = h - a by omega]; exact ht
        have HT : Hid (ltc cf (gt Y (p - h - m)) (gt X (h - a)) = true → ltc cf (gt Y (p - h - m)) (gt X (h - a)) = true) := Lib.hid fun ht => ht
        obtain ⟨yv, hyv⟩ : ∃ yv, gt Y (p - h - m) = yv := ⟨_, rfl⟩
        obtain ⟨xv, hxv⟩ : ∃ xv, gt X (h - a) = xv := ⟨_, rfl⟩
        have HYX := Lib.hid (And.intro hyv hxv)
        rw [hyv] at HGp
        rw [hxv] at HGh
        clear hyv hxv
        have hpl : p - h < (A ++ (X ++ (Y ++ B))).length := by rw [HN.out]; omega
        have hql : h < (A ++ (X ++ (Y ++ B))).length := by rw [HN.out]; omega
        have kw1 : IntKind.i64.wrap ((p : Int) - (h : Int)) = (p : Int) - (h : Int) := IntWalk.i64_in _ (by omega)
        have iah := fun W => idx_run (g := g) (cap := cap) (n := N) W (i := h) (by omega) (x := (h : Int)) rfl
        have iap := fun W => idx_run (g := g) (cap := cap) (n := N) W (i := p - h) (by omega) (x := (p : Int) - (h : Int)) (by omega)
        go_wp2_with fail
        refine wp_cmp (by kernel_rfl) (by kernel_rfl) c base g cap (A ++ (X ++ (Y ++ B))) (p - h) (h) (by omega) (by omega) HR.out 58 _ Try.underlying58 (by kernel_rfl)
          (fun i => (#[.func (.func gc) #[] #[], .slice (some ⟨g, 0, none⟩) N cap, .int .i64 (p : Int), .int .i64 (h : Int), .int .i64 ((p : Int) - (h : Int)), .pointer (some ⟨g, (p - h) * 9, none⟩), .agg (nine c (gt (A ++ (X ++ (Y ++ B))) (p - h))).toArray, .slice (some ⟨g, 0, none⟩) N cap, .int .i64 (h : Int), .pointer (some ⟨g, h * 9, none⟩), .agg (nine c (gt (A ++ (X ++ (Y ++ B))) h)).toArray, .int .i64 (cf (gt (A ++ (X ++ (Y ++ B))) (p - h)) (gt (A ++ (X ++ (Y ++ B))) h)), .bool (decide (cf (gt (A ++ (X ++ (Y ++ B))) (p - h)) (gt (A ++ (X ++ (Y ++ B))) h) < 0)), .bool (!(decide (cf (gt (A ++ (X ++ (Y ++ B))) (p - h)) (gt (A ++ (X ++ (Y ++ B))) h) < 0)))] : Array Value).getD i undef) 6 10 11 5 9 0 163 167 164 168 158 _ gc (cf (gt (A ++ (X ++ (Y ++ B))) (p - h)) (gt (A ++ (X ++ (Y ++ B))) (h))) rfl rfl rfl rfl rfl rfl ⟨_, rfl, rfl⟩ ⟨_, rfl, rfl⟩ ⟨_, rfl, rfl⟩ (by exact ⟨rfl, rfl, rfl, rfl, rfl⟩) (by kernel_rfl) (by decide) Hent.out (fun W _ => Hcmp.out W _ _) ?_ [(some 158, .func (.func gc) #[] #[]), (some 159, .slice (some ⟨g, 0, none⟩) N cap), (some 160, .int .i64 (p : Int)), (some 161, .int .i64 (h : Int)), (some 162, .int .i64 ((p : Int) - (h : Int))), (some 163, .pointer (some ⟨g, (p - h) * 9, none⟩)), (some 164, .agg (nine c (gt (A ++ (X ++ (Y ++ B))) (p - h))).toArray), (some 165, .slice (some ⟨g, 0, none⟩) N cap), (some 166, .int .i64 (h : Int)), (some 167, .pointer (some ⟨g, h * 9, none⟩)), (some 168, .agg (nine c (gt (A ++ (X ++ (Y ++ B))) h)).toArray), (some 169, .int .i64 (cf (gt (A ++ (X ++ (Y ++ B))) (p - h)) (gt (A ++ (X ++ (Y ++ B))) h))), (some 170, .bool (decide (cf (gt (A ++ (X ++ (Y ++ B))) (p - h)) (gt (A ++ (X ++ (Y ++ B))) h) < 0))), (some 171, .bool (!(decide (cf (gt (A ++ (X ++ (Y ++ B))) (p - h)) (gt (A ++ (X ++ (Y ++ B))) h) < 0))))] rfl ?_
        · intro i o ho k1 k2 k3 b' W hev hout
          rcases i with _ | _ | _ | _ | _ | _ | _ | _ | _ | _ | _ | _ | _ | _ | i
          · cases ho
            exact run_move W (.tmp 4) rfl ((hout 4 (by kernel_rfl)).trans rfl)
          · cases ho
            exact run_move W (.tmp 0) rfl ((hout 0 (by kernel_rfl)).trans rfl)
          · cases ho
            exact run_move W (.tmp 22) rfl ((hout 22 (by kernel_rfl)).trans rfl)
          · cases ho
            exact run_move W (.tmp 23) rfl ((hout 23 (by kernel_rfl)).trans rfl)
          · cases ho
            exact run_sub W (.tmp 160) (.tmp 161) rfl (hev 2 160 (by kernel_rfl) rfl) (hev 3 161 (by kernel_rfl) rfl) kw1
          · cases ho
            exact run_idx W (.tmp 159) (.tmp 162) rfl (hev 1 159 (by kernel_rfl) rfl) (hev 4 162 (by kernel_rfl) rfl) iap
          · exact absurd rfl k1
          · cases ho
            exact run_move W (.tmp 0) rfl ((hout 0 (by kernel_rfl)).trans rfl)
          · cases ho
            exact run_move W (.tmp 23) rfl ((hout 23 (by kernel_rfl)).trans rfl)
          · cases ho
            exact run_idx W (.tmp 165) (.tmp 166) rfl (hev 7 165 (by kernel_rfl) rfl) (hev 8 166 (by kernel_rfl) rfl) iah
          · exact absurd rfl k2
          · exact absurd rfl k3
          · cases ho
            exact run_lss0 W (.tmp 169) rfl (hev 11 169 (by kernel_rfl) rfl)
          · cases ho
            exact run_not W (.tmp 170) rfl (hev 12 170 (by kernel_rfl) rfl)
          · cases ho
        · intro w2 hrow hb2
          rw [HGp.out, HGh.out]
          have hbe : Below wc.heap.size wc w2 := hbel.trans (hb2.mono hbel.size)
          have HRW := Lib.hid hrow
          clear hpl hql iah iap hrow eh kw1
          cases ht : decide (cf yv xv < 0)
          · have HI3 : Hid ((h + 1 = lo ∨ ltc cf (gt Y (p + 1 - (h + 1) - m)) (gt X (h + 1 - 1 - a)) = false) ∧ (j = hi ∨ ltc cf (gt Y (p - j - m)) (gt X (j - a)) = true)) := Lib.hid ⟨.inr (HF.out (by rw [HYX.out.1, HYX.out.2]; exact ht)), HIJ.out.2⟩
            clear ht HT HF
            simp only [putP, Exit.then, Act.put, List.setIfInBounds_toArray, List.set_cons_zero, List.set_cons_succ, Bool.not_false]
            go_wp2
            go_roundw
            case rel => exact ⟨h + 1, j, by go_num, rfl, by omega, by omega, hj, HI3, HRW, hbe⟩
            case measure => simp [intOf]; omega
          · have HI3 : Hid ((i = lo ∨ ltc cf (gt Y (p + 1 - i - m)) (gt X (i - 1 - a)) = false) ∧ (h = hi ∨ ltc cf (gt Y (p - h - m)) (gt X (h - a)) = true)) := Lib.hid ⟨HIJ.out.1, .inr (by rw [HYX.out.1, HYX.out.2]; exact ht)⟩
            clear ht HT HF
            simp only [putP, Exit.then, Act.put, List.setIfInBounds_toArray, List.set_cons_zero, List.set_cons_succ, Bool.not_true]
            go_wp2
            go_roundw
            case rel => exact ⟨i, h, rfl, rfl, hi0, hi1, by omega, HI3, HRW, hbe⟩
            case measure => simp [intOf]; omega
      · obtain rfl : i = j := by omega
        have hs0 := hbel.size
        obtain ⟨en, hen⟩ : ∃ en : Nat, en + i = mid + m := ⟨mid + m - i, by omega⟩
        have een : (mid : Int) + (m : Int) - (i : Int) = (en : Int) := by omega
        have hen1 : en + i ≤ mid + m := by omega
        have hen2 : mid + m ≤ en + i := by omega
        clear hen
        have HMG : Hid (mg (ltc cf) X Y = mg (ltc cf) (X.take (i - a)) (Y.take (mid - i)) ++ mg (ltc cf) (X.drop (i - a)) (Y.drop (mid - i))) := Lib.hid (by
          have hA := HA.out
          have hM := HM.out
          have hB := HB.out
          obtain ⟨q1, q2⟩ := HLH.out
          obtain ⟨r1, r2⟩ := HIJ.out
          refine part_mg hO HX.out HY.out (i - a) (mid - i) (by omega) (by omega) ?_ ?_
          · rcases r1 with r1 | r1
            · rcases q1 with q1 | q1
              · left; omega
              · right; left; omega
            · by_cases hia : i = a
              · left; omega
              · right; right
                rw [show p + 1 - i - m = mid - i by omega, show i - 1 - a = i - a - 1 by omega] at r1
                exact r1
          · rcases r2 with r2 | r2
            · rcases q2 with q2 | q2
              · left; omega
              · right; left; omega
            · by_cases hia : mid = i
              · right; left; omega
              · right; right
                rw [show p - i - m = mid - i - 1 by omega] at r2
                exact r2)
        have HL : Hid ((X.take (i - a)).length = i - a ∧ (X.drop (i - a)).length = m - i ∧ (Y.take (mid - i)).length = mid - i ∧ (Y.drop (mid - i)).length = b - en) := Lib.hid (by
          have hM := HM.out
          have hB := HB.out
          refine ⟨?_, ?_, ?_, ?_⟩
          · rw [List.length_take]; omega
          · rw [List.length_drop]; omega
          · rw [List.length_take]; omega
          · rw [List.length_drop]; omega)
        have HXS := Lib.hid (And.intro (srt_take HX.out (i - a)) (srt_drop HX.out (i - a)))
        have HYS := Lib.hid (And.intro (srt_take HY.out (mid - i)) (srt_drop HY.out (mid - i)))
        have HR4 : Hid (RowE c wr base g cap (A ++ (X.take (i - a) ++ (X.drop (i - a) ++ (Y.take (mid - i) ++ (Y.drop (mid - i) ++ B)))))) := Lib.hid (by
          rw [← List.append_assoc (X.take (i - a)), List.take_append_drop, ← List.append_assoc (Y.take (mid - i)), List.take_append_drop]
          exact HR.out)
        have HN4 : Hid ((A ++ (X.take (i - a) ++ (X.drop (i - a) ++ (Y.take (mid - i) ++ (Y.drop (mid - i) ++ B))))).length = N) := Lib.hid (by
          rw [← List.append_assoc (X.take (i - a)), List.take_append_drop, ← List.append_assoc (Y.take (mid - i)), List.take_append_drop]
          exact HN.out)
        generalize X.take (i - a) = X1 at *
        generalize X.drop (i - a) = X2 at *
        generalize Y.take (mid - i) = Y1 at *
        generalize Y.drop (mid - i) = Y2 at *
        clear HR HIJ
        have Hen : Hid (en + i = mid + m) := Lib.hid (by omega)
        have HROT : Hid (i < m → i < mid → Calls Try.prog 63 #[.slice (some ⟨g, 0, none⟩) N cap, .int .i64 (i : Int), .int .i64 (m : Int), .int .i64 (en : Int), .func (.func gc) #[] #[]] wr fun e w' =>
            e = .returned (.tuple #[]) ∧ RowE c w' base g cap (A ++ (X1 ++ (Y1 ++ (X2 ++ (Y2 ++ B))))) ∧ Only g wr w') := Lib.hid fun q1 q2 => by
          have hL := HL.out
          have hA := HA.out
          have hE := Hen.out
          have := rotate_calls c H1.out N base g cap i m en (.func (.func gc) #[] #[]) wr (A ++ X1) X2 Y1 (Y2 ++ B) (by rw [List.append_assoc]; exact HR4.out) (by rw [List.append_assoc]; exact HN4.out) (by rw [List.length_append]; omega) (by omega) (by omega) (by omega) (by omega) hd
          rwa [List.append_assoc] at this
        have HE0 : Hid ((m ≤ i ∨ mid ≤ i) → RowE c wr base g cap (A ++ (X1 ++ (Y1 ++ (X2 ++ (Y2 ++ B)))))) := Lib.hid fun q => by
          have hL := HL.out
          have := HR4.out
          rcases q with q | q
          · have hX0 : X2 = [] := List.eq_nil_of_length_eq_zero (by omega)
            rw [hX0] at this ⊢
            exact this
          · have hY0 : Y1 = [] := List.eq_nil_of_length_eq_zero (by omega)
            rw [hY0] at this ⊢
            exact this
        have HN5 : Hid ((A ++ (X1 ++ (Y1 ++ (X2 ++ (Y2 ++ B))))).length = N) := Lib.hid (by
          have := HN4.out
          simp only [List.length_append] at this ⊢
          omega)
        have HS1 : Hid (∀ W, RowE c W base g cap (A ++ (X1 ++ (Y1 ++ (X2 ++ (Y2 ++ B))))) → a < i → i < mid → Calls Try.prog 61 #[.slice (some ⟨g, 0, none⟩) N cap, .int .i64 (a : Int), .int .i64 (i : Int), .int .i64 (mid : Int), .func (.func gc) #[] #[]] W fun e w' =>
            e = .returned (.tuple #[]) ∧ RowE c w' base g cap (A ++ (mg (ltc cf) X1 Y1 ++ (X2 ++ (Y2 ++ B)))) ∧ Only g W w') := Lib.hid fun W hW q1 q2 => by
          have hL := HL.out
          have hA := HA.out
          have hM := HM.out
          have hB := HB.out
          have hK := HK.out
          exact HI.out W A X1 Y1 (X2 ++ (Y2 ++ B)) a i mid (by omega) (by omega) (by omega) hW HN5.out hA (by omega) (by omega) HXS.out.1 HYS.out.1
        have HE1 : Hid (∀ W, RowE c W base g cap (A ++ (X1 ++ (Y1 ++ (X2 ++ (Y2 ++ B))))) → (i ≤ a ∨ mid ≤ i) → RowE c W base g cap (A ++ (mg (ltc cf) X1 Y1 ++ (X2 ++ (Y2 ++ B))))) := Lib.hid fun W hW q => by
          have hL := HL.out
          rcases q with q | q
          · have hX0 : X1 = [] := List.eq_nil_of_length_eq_zero (by omega)
            rw [hX0] at hW ⊢
            rw [mg_nil_l]
            exact hW
          · have hY0 : Y1 = [] := List.eq_nil_of_length_eq_zero (by omega)
            rw [hY0] at hW ⊢
            rw [mg_nil]
            exact hW
        have HS2 : Hid (∀ W, RowE c W base g cap (A ++ (mg (ltc cf) X1 Y1 ++ (X2 ++ (Y2 ++ B)))) → i < m → en < b → Calls Try.prog 61 #[.slice (some ⟨g, 0, none⟩) N cap, .int .i64 (mid : Int), .int .i64 (en : Int), .int .i64 (b : Int), .func (.func gc) #[] #[]] W fun e w' =>
            e = .returned (.tuple #[]) ∧ RowE c w' base g cap (A ++ (mg (ltc cf) X Y ++ B)) ∧ Only g W w') := Lib.hid fun W hW q1 q2 => by
          have hL := HL.out
          have hA := HA.out
          have hM := HM.out
          have hB := HB.out
          have hK := HK.out
          have hE := Hen.out
          have hml := mg_len (lt := ltc cf) X1 Y1
          have hN6 : ((A ++ mg (ltc cf) X1 Y1) ++ (X2 ++ (Y2 ++ B))).length = N := by
            have := HN5.out
            simp only [List.length_append] at this ⊢
            omega
          have := HI.out W (A ++ mg (ltc cf) X1 Y1) X2 Y2 B mid en b (by omega) (by omega) (by omega) (by rw [List.append_assoc]; exact hW) hN6 (by rw [List.length_append]; omega) (by omega) (by omega) HXS.out.2 HYS.out.2
          rw [HMG.out, List.append_assoc (mg (ltc cf) X1 Y1)]
          rwa [List.append_assoc] at this
        have HE2 : Hid (∀ W, RowE c W base g cap (A ++ (mg (ltc cf) X1 Y1 ++ (X2 ++ (Y2 ++ B)))) → (m ≤ i ∨ b ≤ en) → RowE c W base g cap (A ++ (mg (ltc cf) X Y ++ B))) := Lib.hid fun W hW q => by
          have hL := HL.out
          have hE := Hen.out
          rw [HMG.out, List.append_assoc (mg (ltc cf) X1 Y1)]
          rcases q with q | q
          · have hX0 : X2 = [] := List.eq_nil_of_length_eq_zero (by omega)
            rw [hX0] at hW ⊢
            rw [mg_nil_l]
            exact hW
          · have hY0 : Y2 = [] := List.eq_nil_of_length_eq_zero (by omega)
            rw [hY0] at hW ⊢
            rw [mg_nil]
            exact hW
        clear HR4 HN4 HMG HXS HYS HL HX HY HN5
        rcases Nat.lt_or_ge i m with p1 | p1 <;> rcases Nat.lt_or_ge i mid with p2 | p2 <;> rcases Nat.lt_or_ge a i with p3 | p3 <;> rcases Nat.lt_or_ge en b with p4 | p4
        · have i1 : (i : Int) < (m : Int) := by omega
          have d2 : decide ((m : Int) < (en : Int)) = true := dct (by omega)
          have i3 : (a : Int) < (i : Int) := by omega
          have d4 : decide ((i : Int) < (mid : Int)) = true := dct (by omega)
          have i5 : (mid : Int) < (en : Int) := by omega
          have d6 : decide ((en : Int) < (b : Int)) = true := dct (by omega)
          have HC0 := Lib.hid (HROT.out p1 p2)
          go_wp2_with fail
          refine HC0.out.mono ?_
          rintro e w2 ⟨rfl, hr2, ho2⟩
          have HR5 := Lib.hid hr2
          have HC1 := Lib.hid (HS1.out _ HR5.out p3 p2)
          go_wp2_with fail
          refine HC1.out.mono ?_
          rintro e w3 ⟨rfl, hr3, ho3⟩
          have HR6 := Lib.hid hr3
          have ho23 := ho2.trans ho3
          have HC2 := Lib.hid (HS2.out _ HR6.out p1 p4)
          go_wp2_with fail
          refine HC2.out.mono ?_
          rintro e w4 ⟨rfl, hr4, ho4⟩
          have HR7 := Lib.hid hr4
          have ho24 := ho23.trans ho4
          go_wp2
          go_end0
          exact ⟨rfl, HR7.out, (Only.of_below hbel).trans ho24⟩
        · have i1 : (i : Int) < (m : Int) := by omega
          have d2 : decide ((m : Int) < (en : Int)) = true := dct (by omega)
          have i3 : (a : Int) < (i : Int) := by omega
          have d4 : decide ((i : Int) < (mid : Int)) = true := dct (by omega)
          have i5 : (mid : Int) < (en : Int) := by omega
          have d6 : decide ((en : Int) < (b : Int)) = false := dcf (by omega)
          have HC0 := Lib.hid (HROT.out p1 p2)
          go_wp2_with fail
          refine HC0.out.mono ?_
          rintro e w2 ⟨rfl, hr2, ho2⟩
          have HR5 := Lib.hid hr2
          have HC1 := Lib.hid (HS1.out _ HR5.out p3 p2)
          go_wp2_with fail
          refine HC1.out.mono ?_
          rintro e w3 ⟨rfl, hr3, ho3⟩
          have HR6 := Lib.hid hr3
          have ho23 := ho2.trans ho3
          have HR7 := Lib.hid (HE2.out _ HR6.out (by omega))
          have ho24 := ho23
          go_wp2
          go_end0
          exact ⟨rfl, HR7.out, (Only.of_below hbel).trans ho24⟩
        · have i1 : (i : Int) < (m : Int) := by omega
          have d2 : decide ((m : Int) < (en : Int)) = true := dct (by omega)
          have i3 : ¬ (a : Int) < (i : Int) := by omega
          have d4 : decide ((i : Int) < (mid : Int)) = true := dct (by omega)
          have i5 : (mid : Int) < (en : Int) := by omega
          have d6 : decide ((en : Int) < (b : Int)) = true := dct (by omega)
          have HC0 := Lib.hid (HROT.out p1 p2)
          go_wp2_with fail
          refine HC0.out.mono ?_
          rintro e w2 ⟨rfl, hr2, ho2⟩
          have HR5 := Lib.hid hr2
          have HR6 := Lib.hid (HE1.out _ HR5.out (by omega))
          have ho23 := ho2
          have HC2 := Lib.hid (HS2.out _ HR6.out p1 p4)
          go_wp2_with fail
          refine HC2.out.mono ?_
          rintro e w4 ⟨rfl, hr4, ho4⟩
          have HR7 := Lib.hid hr4
          have ho24 := ho23.trans ho4
          go_wp2
          go_end0
          exact ⟨rfl, HR7.out, (Only.of_below hbel).trans ho24⟩
        · have i1 : (i : Int) < (m : Int) := by omega
          have d2 : decide ((m : Int) < (en : Int)) = true := dct (by omega)
          have i3 : ¬ (a : Int) < (i : Int) := by omega
          have d4 : decide ((i : Int) < (mid : Int)) = true := dct (by omega)
          have i5 : (mid : Int) < (en : Int) := by omega
          have d6 : decide ((en : Int) < (b : Int)) = false := dcf (by omega)
          have HC0 := Lib.hid (HROT.out p1 p2)
          go_wp2_with fail
          refine HC0.out.mono ?_
          rintro e w2 ⟨rfl, hr2, ho2⟩
          have HR5 := Lib.hid hr2
          have HR6 := Lib.hid (HE1.out _ HR5.out (by omega))
          have ho23 := ho2
          have HR7 := Lib.hid (HE2.out _ HR6.out (by omega))
          have ho24 := ho23
          go_wp2
          go_end0
          exact ⟨rfl, HR7.out, (Only.of_below hbel).trans ho24⟩
        · have i1 : (i : Int) < (m : Int) := by omega
          have d2 : decide ((m : Int) < (en : Int)) = false := dcf (by omega)
          have i3 : (a : Int) < (i : Int) := by omega
          have d4 : decide ((i : Int) < (mid : Int)) = false := dcf (by omega)
          have i5 : (mid : Int) < (en : Int) := by omega
          have d6 : decide ((en : Int) < (b : Int)) = true := dct (by omega)
          have HR5 := Lib.hid (HE0.out (by omega))
          have ho2 := Only.refl g wr
          have HR6 := Lib.hid (HE1.out _ HR5.out (by omega))
          have ho23 := ho2
          have HC2 := Lib.hid (HS2.out _ HR6.out p1 p4)
          go_wp2_with fail
          refine HC2.out.mono ?_
          rintro e w4 ⟨rfl, hr4, ho4⟩
          have HR7 := Lib.hid hr4
          have ho24 := ho23.trans ho4
          go_wp2
          go_end0
          exact ⟨rfl, HR7.out, (Only.of_below hbel).trans ho24⟩
        · exfalso; omega
        · exfalso; omega
        · exfalso; omega
        · have i1 : ¬ (i : Int) < (m : Int) := by omega
          have d2 : decide ((m : Int) < (en : Int)) = true := dct (by omega)
          have i3 : (a : Int) < (i : Int) := by omega
          have d4 : decide ((i : Int) < (mid : Int)) = true := dct (by omega)
          have i5 : ¬ (mid : Int) < (en : Int) := by omega
          have d6 : decide ((en : Int) < (b : Int)) = true := dct (by omega)
          have HR5 := Lib.hid (HE0.out (by omega))
          have ho2 := Only.refl g wr
          have HC1 := Lib.hid (HS1.out _ HR5.out p3 p2)
          go_wp2_with fail
          refine HC1.out.mono ?_
          rintro e w3 ⟨rfl, hr3, ho3⟩
          have HR6 := Lib.hid hr3
          have ho23 := ho2.trans ho3
          have HR7 := Lib.hid (HE2.out _ HR6.out (by omega))
          have ho24 := ho23
          go_wp2
          go_end0
          exact ⟨rfl, HR7.out, (Only.of_below hbel).trans ho24⟩
        · exfalso; omega
        · exfalso; omega
        · exfalso; omega
        · have i1 : ¬ (i : Int) < (m : Int) := by omega
          have d2 : decide ((m : Int) < (en : Int)) = false := dcf (by omega)
          have i3 : (a : Int) < (i : Int) := by omega
          have d4 : decide ((i : Int) < (mid : Int)) = false := dcf (by omega)
          have i5 : ¬ (mid : Int) < (en : Int) := by omega
          have d6 : decide ((en : Int) < (b : Int)) = true := dct (by omega)
          have HR5 := Lib.hid (HE0.out (by omega))
          have ho2 := Only.refl g wr
          have HR6 := Lib.hid (HE1.out _ HR5.out (by omega))
          have ho23 := ho2
          have HR7 := Lib.hid (HE2.out _ HR6.out (by omega))
          have ho24 := ho23
          go_wp2
          go_end0
          exact ⟨rfl, HR7.out, (Only.of_below hbel).trans ho24⟩
        · exfalso; omega
        · exfalso; omega
        · exfalso; omega
end Go.Proofs.Ytophfgijfmdbcaa.Sr
