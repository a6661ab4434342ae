/- stableCmpFunc, SortStableFunc: the row is put in order, equals left in their order. -/
import Derived.Test.YtophfgijfmdbcaaProg
import Derived.Test.YtophfgijfmdbcaaSoK
namespace Go.Proofs.Ytophfgijfmdbcaa.So
open Go.RowKit
variable {α : Type} [Inhabited α]

/-- Up to place a the chunks of length s are made; behind it the chunks of length r stand. -/
def Part (lt : α → α → Bool) (s r : Nat) (D0 d : List α) (a : Nat) : Prop := ∃ P : List α, P.length = a ∧ a ≤ D0.length ∧ d = P ++ (if r = 0 then D0.drop a else chunk lt r (D0.drop a)) ∧ chunk lt s D0 = P ++ chunk lt s (D0.drop a)

set_option maxRecDepth 100000 in
set_option maxHeartbeats 6400000 in
theorem stable_calls (c : α → Nat → Value) (h1 : ∀ x j, (c x j).oneCell' = true) (cf : α → α → Int) (gc : FuncId) (hcmp : CmpE c gc cf) (hent : ∀ args W, (callFunc gc args).run Try.prog W = .ok (.enter gc args) W) (hO : Swo (ltc cf))
    (N : Nat) (base g cap : Nat) (w : World) (D0 : List α) (h : RowE c w base g cap D0) (hN : D0.length = N) (hd : N ≤ 1099511627776) :
    Calls Try.prog 45 #[.slice (some ⟨g, 0, none⟩) N cap, .int .i64 (N : Int), .func (.func gc) #[] #[]] w fun e w' =>
      e = .returned (.tuple #[]) ∧ RowE c w' base g cap (isort (ltc cf) D0) ∧ Only g w w' := by
  have HINS : Hid (∀ (W : World) (A X B : List α) (a b : Nat), RowE c W base g cap (A ++ (X ++ B)) → (A ++ (X ++ B)).length = N → a = A.length → b = a + X.length → Calls Try.prog 55 #[.slice (some ⟨g, 0, none⟩) N cap, .int .i64 (a : Int), .int .i64 (b : Int), .func (.func gc) #[] #[]] W fun e w' =>
      e = .returned (.tuple #[]) ∧ RowE c w' base g cap (A ++ (isort (ltc cf) X ++ B)) ∧ Only g W w') := Lib.hid fun W A X B a b k1 k2 k3 k4 => insert_calls c h1 cf gc hcmp hent hO N base g cap a b W A X B k1 k2 k3 k4 (by omega)
  have HSYM : Hid (∀ K, SymAt c cf gc N base g cap K) := Lib.hid (sym_calls c h1 cf gc hcmp hent hO N base g cap (by omega))
  have HN := Lib.hid hN
  have HR0 : Hid (∃ d, RowE c w base g cap d ∧ Part (ltc cf) 20 0 D0 d 0) := Lib.hid ⟨D0, h, [], rfl, Nat.zero_le _, by simp, by simp⟩
  clear h1 hcmp hent h hN
  go_enter Try.func45, Try.ntmps45
  go_wp2
  go_loopw [7, 8] (fun va vb wr => ∃ a : Nat, va = .int .i64 (a : Int) ∧ vb = .int .i64 ((a : Int) + 20) ∧ a ≤ N ∧ Hid (∃ d, RowE c wr base g cap d ∧ Part (ltc cf) 20 0 D0 d a) ∧ Only g w wr) (fun va _ _ => N - (intOf va).toNat)
  case atStart => exact ⟨0, rfl, by first | rfl | go_num, Nat.zero_le _, HR0, Only.refl _ _⟩
  case round =>
    obtain ⟨a, rfl, rfl, haN, HP, honly⟩ := hrel
    by_cases hlt : a + 20 ≤ N
    · have i1 : (a : Int) + 20 ≤ (N : Int) := by omega
      have hc : Calls Try.prog 55 #[.slice (some ⟨g, 0, none⟩) N cap, .int .i64 (a : Int), .int .i64 ((a : Int) + 20), .func (.func gc) #[] #[]] wr fun e w' =>
          e = .returned (.tuple #[]) ∧ (∃ d, RowE c w' base g cap d ∧ Part (ltc cf) 20 0 D0 d (a + 20)) ∧ Only g wr w' := by
        obtain ⟨d, hr, P, p1, p2, p3, p4⟩ := HP.out
        have hNN := HN.out
        rw [if_pos rfl] at p3
        have hD : (D0.drop a).length = N - a := by rw [List.length_drop, hNN]
        have e : d = P ++ ((D0.drop a).take 20 ++ D0.drop (a + 20)) := by
          rw [p3, ← List.drop_drop, List.take_append_drop]
        have hc := HINS.out wr P ((D0.drop a).take 20) (D0.drop (a + 20)) a (a + 20) (by rw [← e]; exact hr) (by simp only [List.length_append, List.length_take, List.length_drop]; omega) p1.symm (by rw [List.length_take]; omega)
        rw [show ((a + 20 : Nat) : Int) = (a : Int) + 20 by omega] at hc
        refine hc.mono ?_
        rintro e w' ⟨rfl, h2, h3⟩
        refine ⟨rfl, ⟨_, h2, P ++ isort (ltc cf) ((D0.drop a).take 20), ?_, by omega, by rw [if_pos rfl]; simp, ?_⟩, h3⟩
        · rw [List.length_append, isort_len, List.length_take]; omega
        · rw [p4, chunk_big (by omega) (by omega), List.drop_drop]
          simp
      have HC := Lib.hid hc
      clear hc HP
      go_wp2_with fail
      refine HC.out.mono ?_
      rintro e w1 ⟨rfl, hp1, ho1⟩
      have HP1 := Lib.hid hp1
      clear hp1
      go_wp2
      go_roundw
      case rel => exact ⟨a + 20, by go_num, by go_num, hlt, HP1, honly.trans ho1⟩
      case measure => simp [intOf]; omega
    · have i1 : ¬ (a : Int) + 20 ≤ (N : Int) := by omega
      have hc : Calls Try.prog 55 #[.slice (some ⟨g, 0, none⟩) N cap, .int .i64 (a : Int), .int .i64 (N : Int), .func (.func gc) #[] #[]] wr fun e w' =>
          e = .returned (.tuple #[]) ∧ RowE c w' base g cap (chunk (ltc cf) 20 D0) ∧ Only g wr w' := by
        obtain ⟨d, hr, P, p1, p2, p3, p4⟩ := HP.out
        have hNN := HN.out
        rw [if_pos rfl] at p3
        have hD : (D0.drop a).length = N - a := by rw [List.length_drop, hNN]
        have hc := HINS.out wr P (D0.drop a) [] a N (by rw [List.append_nil, ← p3]; exact hr) (by simp only [List.length_append, List.length_drop, List.length_nil]; omega) p1.symm (by omega)
        refine hc.mono ?_
        rintro e w' ⟨rfl, h2, h3⟩
        refine ⟨rfl, ?_, h3⟩
        rw [p4, chunk_small (by omega)]
        rwa [List.append_nil] at h2
      have HC := Lib.hid hc
      clear hc HP
      go_wp2_with fail
      refine HC.out.mono ?_
      rintro e w1 ⟨rfl, hp1, ho1⟩
      have HP1 := Lib.hid hp1
      have ho01 := honly.trans ho1
      clear hp1 HC honly ho1 i1 hlt
      go_wp2
      go_loopw [6] (fun vs wx => ∃ s : Nat, vs = .int .i64 (s : Int) ∧ 20 ≤ s ∧ s ≤ 2 * N + 20 ∧ Hid (RowE c wx base g cap (chunk (ltc cf) s D0)) ∧ Only g w wx) (fun vs _ => N - (intOf vs).toNat)
      case atStart => exact ⟨20, rfl, Nat.le_refl _, by omega, HP1, ho01⟩
      case round =>
        obtain ⟨s, rfl, hs20, hsN, HR, honly⟩ := hrel
        by_cases hlt : s < N
        · have i2 : (s : Int) < (N : Int) := by omega
          have HRP : Hid (∃ d, RowE c wr base g cap d ∧ Part (ltc cf) (2 * s) s D0 d 0) := Lib.hid ⟨_, HR.out, [], rfl, Nat.zero_le _, by rw [if_neg (by omega)]; simp, by simp⟩
          go_wp2
          go_loopw [7, 8] (fun va vb wy => ∃ a : Nat, va = .int .i64 (a : Int) ∧ vb = .int .i64 ((a : Int) + 2 * (s : Int)) ∧ a ≤ N ∧ Hid (∃ d, RowE c wy base g cap d ∧ Part (ltc cf) (2 * s) s D0 d a) ∧ Only g w wy) (fun va _ _ => N - (intOf va).toNat)
          case atStart => exact ⟨0, rfl, by first | rfl | go_num, Nat.zero_le _, HRP, honly⟩
          case round =>
            obtain ⟨a, rfl, rfl, haN, HP, honly3⟩ := hrel
            by_cases hlt3 : a + 2 * s ≤ N
            · have i3 : (a : Int) + 2 * (s : Int) ≤ (N : Int) := by omega
              have hc : Calls Try.prog 56 #[.slice (some ⟨g, 0, none⟩) N cap, .int .i64 (a : Int), .int .i64 ((a : Int) + (s : Int)), .int .i64 ((a : Int) + 2 * (s : Int)), .func (.func gc) #[] #[]] wr fun e w' =>
                  e = .returned (.tuple #[]) ∧ (∃ d, RowE c w' base g cap d ∧ Part (ltc cf) (2 * s) s D0 d (a + 2 * s)) ∧ Only g wr w' := by
                obtain ⟨d, hr, P, p1, p2, p3, p4⟩ := HP.out
                have hNN := HN.out
                rw [if_neg (by omega)] at p3
                have hD : (D0.drop a).length = N - a := by rw [List.length_drop, hNN]
                have hD2 : ((D0.drop a).drop s).length = N - a - s := by rw [List.length_drop, hD]
                rw [chunk_big (by omega) (by omega), chunk_big (s := s) (l := (D0.drop a).drop s) (by omega) (by omega)] at p3
                have hl1 : (isort (ltc cf) ((D0.drop a).take s)).length = s := by rw [isort_len, List.length_take]; omega
                have hl2 : (isort (ltc cf) (((D0.drop a).drop s).take s)).length = s := by rw [isort_len, List.length_take]; omega
                have hc := HSYM.out (s + s) wr P (isort (ltc cf) ((D0.drop a).take s)) (isort (ltc cf) (((D0.drop a).drop s).take s)) (chunk (ltc cf) s (((D0.drop a).drop s).drop s)) a (a + s) (a + 2 * s) (by omega) (by omega) (by omega) (by rw [← p3]; exact hr) (by
                  simp only [List.length_append, hl1, hl2, chunk_len (show 0 < s by omega), List.length_drop]
                  omega) p1.symm (by omega) (by omega) (isort_srt hO _) (isort_srt hO _)
                rw [show ((a + s : Nat) : Int) = (a : Int) + (s : Int) by omega, show ((a + 2 * s : Nat) : Int) = (a : Int) + 2 * (s : Int) by omega] at hc
                refine hc.mono ?_
                rintro e w' ⟨rfl, h2, h3⟩
                rw [← isort_app hO, ← List.take_add, show s + s = 2 * s by omega] at h2
                refine ⟨rfl, ⟨_, h2, P ++ isort (ltc cf) ((D0.drop a).take (2 * s)), ?_, by omega, ?_, ?_⟩, h3⟩
                · rw [List.length_append, isort_len, List.length_take]; omega
                · rw [if_neg (by omega), List.drop_drop, List.drop_drop, show a + (s + s) = a + 2 * s by omega, List.append_assoc]
                · rw [p4, chunk_big (s := 2 * s) (by omega) (by omega), List.drop_drop, List.append_assoc]
              have HC := Lib.hid hc
              clear hc HP
              go_wp2_with fail
              refine HC.out.mono ?_
              rintro e w1 ⟨rfl, hp1, ho1⟩
              have HP1 := Lib.hid hp1
              clear hp1
              go_wp2
              go_roundw
              case rel => exact ⟨a + 2 * s, by go_num, by go_num, hlt3, HP1, honly3.trans ho1⟩
              case measure => simp [intOf]; omega
            · have i3 : ¬ (a : Int) + 2 * (s : Int) ≤ (N : Int) := by omega
              by_cases hm : a + s < N
              · have i4 : (a : Int) + (s : Int) < (N : Int) := by omega
                have hc : Calls Try.prog 56 #[.slice (some ⟨g, 0, none⟩) N cap, .int .i64 (a : Int), .int .i64 ((a : Int) + (s : Int)), .int .i64 (N : Int), .func (.func gc) #[] #[]] wr fun e w' =>
                    e = .returned (.tuple #[]) ∧ RowE c w' base g cap (chunk (ltc cf) (2 * s) D0) ∧ Only g wr w' := by
                  obtain ⟨d, hr, P, p1, p2, p3, p4⟩ := HP.out
                  have hNN := HN.out
                  rw [if_neg (by omega)] at p3
                  have hD : (D0.drop a).length = N - a := by rw [List.length_drop, hNN]
                  have hD2 : ((D0.drop a).drop s).length = N - a - s := by rw [List.length_drop, hD]
                  rw [chunk_big (by omega) (by omega), chunk_small (s := s) (l := (D0.drop a).drop s) (by omega)] at p3
                  have hl1 : (isort (ltc cf) ((D0.drop a).take s)).length = s := by rw [isort_len, List.length_take]; omega
                  have hl2 : (isort (ltc cf) ((D0.drop a).drop s)).length = N - a - s := by rw [isort_len, hD2]
                  have hc := HSYM.out (s + (N - a - s)) wr P (isort (ltc cf) ((D0.drop a).take s)) (isort (ltc cf) ((D0.drop a).drop s)) [] a (a + s) N (by omega) (by omega) (by omega) (by rw [List.append_nil, ← p3]; exact hr) (by
                    simp only [List.length_append, hl1, hl2, List.length_nil]
                    omega) p1.symm (by omega) (by omega) (isort_srt hO _) (isort_srt hO _)
                  rw [show ((a + s : Nat) : Int) = (a : Int) + (s : Int) by omega] at hc
                  refine hc.mono ?_
                  rintro e w' ⟨rfl, h2, h3⟩
                  rw [← isort_app hO, List.take_append_drop, List.append_nil] at h2
                  refine ⟨rfl, ?_, h3⟩
                  rw [p4, chunk_small (s := 2 * s) (by omega)]
                  exact h2
                have HC := Lib.hid hc
                clear hc HP HR HRP
                go_wp2_with fail
                refine HC.out.mono ?_
                rintro e w1 ⟨rfl, hp1, ho1⟩
                have HP1 := Lib.hid hp1
                clear hp1
                go_wp2
                go_roundw
                case rel => exact ⟨2 * s, by go_num, by omega, by omega, HP1, honly3.trans ho1⟩
                case measure => simp [intOf]; omega
              · have i4 : ¬ (a : Int) + (s : Int) < (N : Int) := by omega
                have HP1 : Hid (RowE c wr base g cap (chunk (ltc cf) (2 * s) D0)) := Lib.hid (by
                  obtain ⟨d, hr, P, p1, p2, p3, p4⟩ := HP.out
                  have hNN := HN.out
                  rw [if_neg (by omega)] at p3
                  have hD : (D0.drop a).length = N - a := by rw [List.length_drop, hNN]
                  rw [p4, chunk_small (s := 2 * s) (by omega)]
                  rw [chunk_small (s := s) (by omega)] at p3
                  rw [← p3]; exact hr)
                clear HP HR HRP
                go_wp2
                go_roundw
                case rel => exact ⟨2 * s, by go_num, by omega, by omega, HP1, honly3⟩
                case measure => simp [intOf]; omega
        · have i2 : ¬ (s : Int) < (N : Int) := by omega
          have HE : Hid (RowE c wr base g cap (isort (ltc cf) D0)) := Lib.hid (by rw [← chunk_small (s := s) (by rw [HN.out]; omega)]; exact HR.out)
          go_wp2
          go_end0
          exact ⟨rfl, HE.out, honly⟩

set_option maxRecDepth 100000 in
theorem sortStable_calls (c : α → Nat → Value) (h1 : ∀ x j, (c x j).oneCell' = true) (cf : α → α → Int) (gc : FuncId) (hcmp : CmpE c gc cf) (hent : ∀ args W, (callFunc gc args).run Try.prog W = .ok (.enter gc args) W) (hO : Swo (ltc cf))
    (N : Nat) (base g cap : Nat) (w : World) (D0 : List α) (h : RowE c w base g cap D0) (hN : D0.length = N) (hd : N ≤ 1099511627776) :
    Calls Try.prog 30 #[.slice (some ⟨g, 0, none⟩) N cap, .func (.func gc) #[] #[]] w fun e w' =>
      e = .returned (.tuple #[]) ∧ RowE c w' base g cap (isort (ltc cf) D0) ∧ Only g w w' := by
  have HC := Lib.hid (stable_calls c h1 cf gc hcmp hent hO N base g cap w D0 h hN hd)
  clear h1 hcmp hent h hN
  go_enter Try.func30, Try.ntmps30
  go_wp2_with fail
  refine HC.out.mono ?_
  rintro e w1 ⟨rfl, hr, ho⟩
  go_wp2
  go_end0
  exact ⟨rfl, hr, ho⟩
end Go.Proofs.Ytophfgijfmdbcaa.So
