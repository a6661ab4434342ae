/- MergeEnds: the walk. -/
import Derived.Test.YtophfgijfmdbcaaProg
import Derived.Test.YtophfgijfmdbcaaMeM
namespace Go.Proofs.Ytophfgijfmdbcaa.lawMergeEnds
open Go.RowKit Go.Proofs.Ytophfgijfmdbcaa.So

set_option maxRecDepth 100000 in
set_option maxHeartbeats 3200000 in
theorem early (w : World) {B c : Nat} {A : Option Addr} {l : List Ent} (small most : Int) (h : Ents w B A l) (hB : B ≤ w.heap.size) (hn : l.length ≤ 4398046511104) (hf : FitE l) (hm : most < 0 ∨ 1099511627776 < most) :
    Calls Try.prog 4 #[.slice A l.length c, .int .i64 small, .int .i64 most] w fun e w' => e = .returned (.bool true) ∧ Below w.heap.size w w' := by
  have HP := Lib.hid fun W (hW : Below w.heap.size w W) => plain_calls W (c := c) (h.below (hW.mono hB)) (by have := hW.size; omega) hn hf
  clear h hf
  go_enter Try.func4, Try.ntmps4
  go_wp2_with fail
  refine (lives_calls w).mono ?_
  rintro e w1 ⟨rfl, hb1⟩
  go_wp2_with fail
  refine (HP.out w1 hb1).mono ?_
  rintro e w2 ⟨b, rfl, _, hb2⟩
  have hb12 := hb1.trans (hb2.mono hb1.size)
  clear hb1 hb2
  rcases hm with hm | hm
  · have d1 : decide (most < 0) = true := dct hm
    cases b
    all_goals
      go_wp2_with fail
      refine (lives_calls w2).mono ?_
      rintro e w3 ⟨rfl, hb3⟩
      go_wp2
      go_ret
      exact ⟨rfl, hb12.trans (hb3.mono hb12.size)⟩
  · have d1 : decide (most < 0) = false := dcf (by omega)
    have d2 : decide (1099511627776 < most) = true := dct hm
    cases b
    all_goals
      go_wp2_with fail
      refine (lives_calls w2).mono ?_
      rintro e w3 ⟨rfl, hb3⟩
      go_wp2
      go_ret
      exact ⟨rfl, hb12.trans (hb3.mono hb12.size)⟩

theorem Blk.putE {w : World} {g : Nat} {a : Ent} (h : Blk w g 29 #[.string a.key, .int .i64 a.window, .string a.part, .int .i64 a.first, .int .i64 a.last, .int .i64 a.rows, .int .i64 a.size, .int .u32 a.sum, .int .i64 a.born]) (x : Ent) : Blk (w.setCells g 0 [.string x.key, .int .i64 x.window, .string x.part, .int .i64 x.first, .int .i64 x.last, .int .i64 x.rows, .int .i64 x.size, .int .u32 x.sum, .int .i64 x.born]) g 29 #[.string x.key, .int .i64 x.window, .string x.part, .int .i64 x.first, .int .i64 x.last, .int .i64 x.rows, .int .i64 x.size, .int .u32 x.sum, .int .i64 x.born] := by
  have h' := (((((((((h.set_ 0 (.string x.key)).set_ 1 (.int .i64 x.window)).set_ 2 (.string x.part)).set_ 3 (.int .i64 x.first)).set_ 4 (.int .i64 x.last)).set_ 5 (.int .i64 x.rows)).set_ 6 (.int .i64 x.size)).set_ 7 (.int .u32 x.sum)).set_ 8 (.int .i64 x.born))
  simp only [List.setIfInBounds_toArray, List.set_cons_zero, List.set_cons_succ] at h'
  exact h'
theorem only_sets (g : Nat) : ∀ (vs : List Value) (o : Nat) (w : World), Only g w (w.setCells g o vs)
  | [], _, w => Only.refl g w
  | v :: r, o, w => ((Only.refl g w).setCell (.inl rfl) v).trans (only_sets g r (o + 1) _)
theorem own_not {w w' : World} {g base n size : Nat} {e : TypeId} {v : Value} {xs : List Value} (h : w.ownsRow base e size v n xs) (ho : Only g w w') (hne : v.ownBlock ≠ some g) : w'.ownsRow base e size v n xs := h.kept ho (.inr hne)
/-- How far the loop over the entries is. -/
structure St (w : World) (base g : Nat) (ks : List ByteArray) (L : List Ent) (j rn : Nat) (v : Value) (one : Ent) : Prop where
  len : ((L.take j).filter fun x => !isIn ks x).length = rn
  own : w.ownsRow base 29 9 v rn (flat Ent.c ((L.take j).filter fun x => !isIn ks x))
  ne : v.ownBlock ≠ some g
  eq1 : one = oneOf ((L.take j).filter (isIn ks))
  blk : Blk w g 29 #[.string one.key, .int .i64 one.window, .string one.part, .int .i64 one.first, .int .i64 one.last, .int .i64 one.rows, .int .i64 one.size, .int .u32 one.sum, .int .i64 one.born]
theorem St.below {w w' : World} {base g : Nat} {ks : List ByteArray} {L : List Ent} {j rn : Nat} {v : Value} {one : Ent} (h : St w base g ks L j rn v one) (hb : Below w.heap.size w w') : St w' base g ks L j rn v one :=
  ⟨h.len, own_below h.own hb, h.ne, h.eq1, h.blk.below hb h.blk.lt⟩
theorem len_le {L : List Ent} {m : Nat} (h : L.length = m) {i : Nat} (hi : i < m) : i < L.length := by omega
theorem tog_at {small most : Int} {L : List Ent} (h : L.Pairwise fun x y => togB small most x y = false ∧ togB small most y x = false) {i k : Nat} (hi : i < L.length) (hk : k < i) : togB small most (gt L i) (gt L k) = false := by
  have := (List.pairwise_iff_getElem.1 h k i (by omega) hi hk).2
  rwa [gt_eq, gt_eq] at this

set_option maxRecDepth 100000 in
set_option maxHeartbeats 6400000 in
theorem body (w : World) {B c : Nat} {A : Option Addr} {l : List Ent} (small most : Int) (h : Ents w B A l) (hB : B ≤ w.heap.size) (hn : l.length ≤ 4398046511104) (hlc : l.length ≤ c) (hf : FitE l) (hm0 : 0 ≤ most) (hm1 : most ≤ 1099511627776) :
    Calls Try.prog 4 #[.slice A l.length c, .int .i64 small, .int .i64 most] w fun e w' => e = .returned (.bool true) ∧ Below w.heap.size w w' := by
  have HP := Lib.hid fun W (hW : Below w.heap.size w W) => plain_calls W (c := c) (h.below (hW.mono hB)) (by have := hW.size; omega) hn hf
  have d1 : decide (most < 0) = false := dcf (by omega)
  have d2 : decide (1099511627776 < most) = false := dcf (by omega)
  have HL := Lib.hid h
  clear hf h
  go_enter Try.func4, Try.ntmps4
  go_wp2_with fail
  refine (lives_calls w).mono ?_
  rintro e w1 ⟨rfl, hb1⟩
  go_wp2_with fail
  refine (HP.out w1 hb1).mono ?_
  rintro e w2 ⟨b, rfl, hpl, hb2⟩
  have hb12 := hb1.trans (hb2.mono hb1.size)
  have HPL := Lib.hid hpl
  clear hb1 hb2 hpl HP
  cases b
  · go_wp2_with fail
    refine (lives_calls w2).mono ?_
    rintro e w3 ⟨rfl, hb3⟩
    go_wp2
    go_ret
    exact ⟨rfl, hb12.trans (hb3.mono hb12.size)⟩
  · have hp := HPL.out rfl
    have hn61 := hp.len
    have HG := Lib.hid hp.good
    clear hp HPL
    have hs2 := hb12.size
    have HL2 : Hid (Ents w2 w2.heap.size A l) := Lib.hid ((Reads.below HL.out (hb12.mono hB)).more (by omega))
    go_wp2
    go_loopw [0, 38] (fun v0 vk wr => ∃ (k m : Nat) (A' : Option Addr) (c' : Nat) (L : List Ent), vk = .int .i64 (k : Int) ∧ v0 = .slice A' m c' ∧ m + k ≤ l.length ∧ m ≤ c' ∧ Hid (L.length = m ∧ Ents wr wr.heap.size A' L ∧ GoodL L) ∧ Below w.heap.size w wr) (fun _ vk _ => l.length + 1 - (intOf vk).toNat)
    case atStart => exact ⟨0, l.length, A, c, l, rfl, rfl, by omega, hlc, Lib.hid ⟨rfl, HL2.out, HG.out⟩, hb12⟩
    case round =>
      obtain ⟨k, m, A', c', L, rfl, rfl, hmk, hmc, HI, hbel⟩ := hrel
      obtain ⟨wo, rfl⟩ : ∃ wo : World, wo = wr := ⟨_, rfl⟩
      have hC := choose_calls wo (c := c') small most HI.out.2.1 (Nat.le_refl _) (by rw [HI.out.1]; omega) hm0 hm1 (fun x hx => by have := HI.out.2.2.rows x hx; omega)
      rw [HI.out.1] at hC
      have HC := Lib.hid hC
      have hkl : (chooseE small most L).length ≤ m := by have := choose_len small most L; rw [HI.out.1] at this; exact this
      have hso := hbel.size
      clear hC
      by_cases hks : chooseE small most L = []
      · rw [hks] at HC
        have HPW := Lib.hid (choose_end HI.out.2.2 hks)
        clear hks hkl
        go_wp2_with fail
        refine HC.out.mono ?_
        rintro e w5 ⟨A5, c5, rfl, _, hb5⟩
        have HE5 : Hid (Ents w5 wo.heap.size A' L) := Lib.hid (HI.out.2.1.below hb5)
        have hs5 := hb5.size
        have HB5 := Lib.hid (hbel.trans (hb5.mono hso))
        clear hb5 hbel
        go_wp2
        go_loopw [120] (fun vi wx => ∃ i : Nat, i ≤ m ∧ vi = .int .i64 (i : Int) ∧ Below w5.heap.size w5 wx) (fun vi _ => m - (intOf vi).toNat)
        case atStart => exact ⟨0, Nat.zero_le _, rfl, Below.refl _ _⟩
        case round =>
          obtain ⟨i, him, rfl, hb6⟩ := hrel
          obtain ⟨w6, rfl⟩ : ∃ w6 : World, w6 = wr := ⟨_, rfl⟩
          by_cases hlt : i < m
          · go_wp2
            go_loopw [124] (fun vj wx => ∃ j : Nat, j ≤ i ∧ vj = .int .i64 (j : Int) ∧ Below w5.heap.size w5 wx) (fun vj _ => i - (intOf vj).toNat)
            case atStart => exact ⟨0, Nat.zero_le _, rfl, hb6⟩
            case round =>
              obtain ⟨j, hji, rfl, hb7⟩ := hrel
              have hs7 := hb7.size
              by_cases hjl : j < i
              · have hE7 : Ents wr wo.heap.size A' L := Reads.below HE5.out (hb7.mono hs5)
                obtain ⟨bA, off, hA, hbB, _⟩ := hE7.nine (by rw [HI.out.1]; omega)
                have Hkeep : Hid (∀ W, Below wr.heap.size wr W → (W.cell? ⟨bA, off + i * 9, none⟩ = some (.string (gt L i).key) ∧ W.cell? ⟨bA, off + i * 9 + 1, none⟩ = some (.int .i64 (gt L i).window) ∧ W.cell? ⟨bA, off + i * 9 + 2, none⟩ = some (.string (gt L i).part) ∧ W.cell? ⟨bA, off + i * 9 + 3, none⟩ = some (.int .i64 (gt L i).first) ∧ W.cell? ⟨bA, off + i * 9 + 4, none⟩ = some (.int .i64 (gt L i).last) ∧ W.cell? ⟨bA, off + i * 9 + 5, none⟩ = some (.int .i64 (gt L i).rows) ∧ W.cell? ⟨bA, off + i * 9 + 6, none⟩ = some (.int .i64 (gt L i).size) ∧ W.cell? ⟨bA, off + i * 9 + 7, none⟩ = some (.int .u32 (gt L i).sum) ∧ W.cell? ⟨bA, off + i * 9 + 8, none⟩ = some (.int .i64 (gt L i).born)) ∧ W.cell? ⟨bA, off + j * 9, none⟩ = some (.string (gt L j).key) ∧ W.cell? ⟨bA, off + j * 9 + 1, none⟩ = some (.int .i64 (gt L j).window) ∧ W.cell? ⟨bA, off + j * 9 + 2, none⟩ = some (.string (gt L j).part) ∧ W.cell? ⟨bA, off + j * 9 + 3, none⟩ = some (.int .i64 (gt L j).first) ∧ W.cell? ⟨bA, off + j * 9 + 4, none⟩ = some (.int .i64 (gt L j).last) ∧ W.cell? ⟨bA, off + j * 9 + 5, none⟩ = some (.int .i64 (gt L j).rows) ∧ W.cell? ⟨bA, off + j * 9 + 6, none⟩ = some (.int .i64 (gt L j).size) ∧ W.cell? ⟨bA, off + j * 9 + 7, none⟩ = some (.int .u32 (gt L j).sum) ∧ W.cell? ⟨bA, off + j * 9 + 8, none⟩ = some (.int .i64 (gt L j).born)) := Lib.hid fun W hW => ⟨(show Ents W wo.heap.size A' L from Reads.below hE7 (hW.mono (by omega))).nine_at hA (len_le HI.out.1 hlt), (show Ents W wo.heap.size A' L from Reads.below hE7 (hW.mono (by omega))).nine_at hA (len_le HI.out.1 (by omega))⟩
                have hra := HI.out.2.2.rows _ (show gt L i ∈ L by rw [← gt_eq (len_le HI.out.1 hlt)]; exact List.getElem_mem _)
                have hTG := fun W => together_calls (gt L i) (gt L j) small most hm0 hm1 (by omega) (by omega) W
                rw [tog_at HPW.out (len_le HI.out.1 hlt) hjl] at hTG
                unfold entA at hTG
                clear hE7
                generalize gt L i = x at *
                generalize gt L j = y at *
                obtain ⟨⟨p0, p1, p2, p3, p4, p5, p6, p7, p8⟩, q0, q1, q2, q3, q4, q5, q6, q7, q8⟩ := Hkeep.out wr (Below.refl _ _)
                have HTG := Lib.hid hTG
                subst hA
                have n0 : (0 : Int) ≤ (i : Int) := by omega
                have n1 : (i : Int) < (m : Int) := by omega
                have n2 : (0 : Int) ≤ (j : Int) := by omega
                have n3 : (j : Int) < (m : Int) := by omega
                clear hTG
                go_wp2_with fail
                go_region_held3 (fun w' => (w'.cell? ⟨bA, off + i * 9, none⟩ = some (.string x.key) ∧ w'.cell? ⟨bA, off + i * 9 + 1, none⟩ = some (.int .i64 x.window) ∧ w'.cell? ⟨bA, off + i * 9 + 2, none⟩ = some (.string x.part) ∧ w'.cell? ⟨bA, off + i * 9 + 3, none⟩ = some (.int .i64 x.first) ∧ w'.cell? ⟨bA, off + i * 9 + 4, none⟩ = some (.int .i64 x.last) ∧ w'.cell? ⟨bA, off + i * 9 + 5, none⟩ = some (.int .i64 x.rows) ∧ w'.cell? ⟨bA, off + i * 9 + 6, none⟩ = some (.int .i64 x.size) ∧ w'.cell? ⟨bA, off + i * 9 + 7, none⟩ = some (.int .u32 x.sum) ∧ w'.cell? ⟨bA, off + i * 9 + 8, none⟩ = some (.int .i64 x.born)) ∧ w'.cell? ⟨bA, off + j * 9, none⟩ = some (.string y.key) ∧ w'.cell? ⟨bA, off + j * 9 + 1, none⟩ = some (.int .i64 y.window) ∧ w'.cell? ⟨bA, off + j * 9 + 2, none⟩ = some (.string y.part) ∧ w'.cell? ⟨bA, off + j * 9 + 3, none⟩ = some (.int .i64 y.first) ∧ w'.cell? ⟨bA, off + j * 9 + 4, none⟩ = some (.int .i64 y.last) ∧ w'.cell? ⟨bA, off + j * 9 + 5, none⟩ = some (.int .i64 y.rows) ∧ w'.cell? ⟨bA, off + j * 9 + 6, none⟩ = some (.int .i64 y.size) ∧ w'.cell? ⟨bA, off + j * 9 + 7, none⟩ = some (.int .u32 y.sum) ∧ w'.cell? ⟨bA, off + j * 9 + 8, none⟩ = some (.int .i64 y.born)) (exact Hkeep.out _ (by first | assumption | exact below_drewN_ (Below.refl _ _) 1)) ((go_at_call 14; refine (HTG.out _).mono ?_; rintro e w8 ⟨rfl, hb8⟩; have he8 : Below wr.heap.size wr w8 := (below_drewN_ (Below.refl _ _) 1).trans hb8))
                go_wp2
                go_roundw
                case rel => exact ⟨j + 1, by omega, by go_num, hb7.trans (he8.mono hs7)⟩
                case measure => simp [intOf]; omega
              · obtain rfl : j = i := by omega
                go_wp2
                go_roundw
                case rel => exact ⟨j + 1, by omega, by go_num, hb7⟩
                case measure => simp [intOf]; omega
          · obtain rfl : i = m := by omega
            go_wp2
            go_ret
            exact ⟨rfl, HB5.out.trans (hb6.mono (by omega))⟩
      · have HN := Lib.hid (choose_next HI.out.2.2 hks)
        have hk0 : 0 < (chooseE small most L).length := List.length_pos_iff.2 hks
        generalize chooseE small most L = ks at *
        obtain ⟨kn, hkn⟩ : ∃ kn, kn = ks.length := ⟨_, rfl⟩
        have HKN := Lib.hid hkn
        rw [← hkn] at hk0 hkl
        have hkne : ((kn : Int) == 0) = false := eqf (by omega)
        have HC2 : Hid (Calls Try.prog 11 #[.slice A' m c', .int .i64 small, .int .i64 most] wo fun e w' => ∃ A5 c5, e = .returned (.slice A5 kn c5) ∧ Strs w' w'.heap.size A5 ks ∧ Below wo.heap.size wo w') := Lib.hid (by
          refine HC.out.mono ?_
          rintro e w' ⟨A5, c5, rfl, h1, h2⟩
          exact ⟨A5, c5, by rw [HKN.out], Reads.of_own h1, h2⟩)
        clear hks hkn HC
        go_wp2_with fail
        refine HC2.out.mono ?_
        rintro e w5 ⟨A5, c5, rfl, hK5, hb5⟩
        have HE5 : Hid (Ents w5 w5.heap.size A' L) := Lib.hid (HI.out.2.1.to hb5 hb5.size)
        have hs5 := hb5.size
        have HB5 := Lib.hid (hbel.trans (hb5.mono hso))
        have HK5 := Lib.hid hK5
        clear hb5 hbel hK5
        go_wp2
        have hs6 : ((w5.alloc (.cells #[] 29)).alloc (.cells #[.string zeroE.key, .int .i64 zeroE.window, .string zeroE.part, .int .i64 zeroE.first, .int .i64 zeroE.last, .int .i64 zeroE.rows, .int .i64 zeroE.size, .int .u32 zeroE.sum, .int .i64 zeroE.born] 29)).heap.size = w5.heap.size + 2 := by simp
        have HS6 : Hid (St ((w5.alloc (.cells #[] 29)).alloc (.cells #[.string zeroE.key, .int .i64 zeroE.window, .string zeroE.part, .int .i64 zeroE.first, .int .i64 zeroE.last, .int .i64 zeroE.rows, .int .i64 zeroE.size, .int .u32 zeroE.sum, .int .i64 zeroE.born] 29)) w5.heap.size (w5.heap.size + 1) ks L 0 0 (.slice (some ⟨w5.heap.size, 0, none⟩) 0 0) zeroE) := Lib.hid ⟨rfl, World.ownsRow.alloc (World.ownsRow_made w5 #[] 0 (Nat.le_refl _) (Nat.zero_le _) rfl) _, by show some w5.heap.size ≠ _; simp, rfl, by have := Blk.new (w5.alloc (.cells #[] 29)) 29 #[.string zeroE.key, .int .i64 zeroE.window, .string zeroE.part, .int .i64 zeroE.first, .int .i64 zeroE.last, .int .i64 zeroE.rows, .int .i64 zeroE.size, .int .u32 zeroE.sum, .int .i64 zeroE.born]; rw [World.size_alloc] at this; exact this⟩
        have hb56 : Below w5.heap.size w5 ((w5.alloc (.cells #[] 29)).alloc (.cells #[.string zeroE.key, .int .i64 zeroE.window, .string zeroE.part, .int .i64 zeroE.first, .int .i64 zeroE.last, .int .i64 zeroE.rows, .int .i64 zeroE.size, .int .u32 zeroE.sum, .int .i64 zeroE.born] 29)) := ((Below.refl _ _).alloc (Nat.le_refl _) _).alloc (by simp) _
        have HB56 := Lib.hid (⟨hb56, hs6⟩ : _ ∧ _)
        clear hb56 hs6
        unfold zeroE at *
        generalize ((w5.alloc (.cells #[] 29)).alloc (.cells #[.string ⟨#[]⟩, .int .i64 0, .string ⟨#[]⟩, .int .i64 0, .int .i64 0, .int .i64 0, .int .i64 0, .int .u32 0, .int .i64 0] 29)) = w6 at *
        generalize hgg : w5.heap.size + 1 = g at *
        have hg5 : w5.heap.size < g := by omega
        clear hgg
        go_loopw [9, 51] (fun v9 vj wx => ∃ (j rn : Nat) (A9 : Option Addr) (c9 : Nat) (one : Ent), j ≤ m ∧ rn ≤ j ∧ vj = .int .i64 (j : Int) ∧ v9 = .slice A9 rn c9 ∧ Hid (St wx w5.heap.size g ks L j rn (.slice A9 rn c9) one) ∧ Below w5.heap.size w5 wx) (fun _ vj _ => m - (intOf vj).toNat)
        case atStart => exact ⟨0, 0, _, 0, _, Nat.zero_le _, Nat.le_refl _, rfl, rfl, HS6, HB56.out.1⟩
        case round =>
          obtain ⟨j, rn, A9, c9, one, hjm, hrj, rfl, rfl, HS, hb7⟩ := hrel
          obtain ⟨w7, rfl⟩ : ∃ w7 : World, w7 = wr := ⟨_, rfl⟩
          have hg7 : g < w7.heap.size := HS.out.blk.lt
          have hs7 := hb7.size
          have hps := pre_sum (fun x hx => (HI.out.2.2.rows x hx).1) (isIn ks) (L := L) j
          have hone : one.rows = sumR ((L.take j).filter (isIn ks)) := by rw [HS.out.eq1]; exact oneOf_sum _
          rw [← hone] at hps
          have hns := HN.out.sum
          have ho0 : 0 ≤ one.rows := hps.1
          have ho1 : one.rows ≤ most := by omega
          clear hps hns hone
          by_cases hlt : j < m
          · obtain ⟨bA, off, hA, hbB, hcell⟩ := (show Ents w7 w5.heap.size A' L from Reads.below HE5.out hb7).nine (by rw [HI.out.1]; omega)
            obtain ⟨y0, y1, y2, y3, y4, y5, y6, y7, y8⟩ := hcell j (len_le HI.out.1 hlt)
            have hx := HI.out.2.2.rows _ (show gt L j ∈ L by rw [← gt_eq (len_le HI.out.1 hlt)]; exact List.getElem_mem _)
            have HIN := Lib.hid (in_snoc (ks := ks) (len_le HI.out.1 hlt))
            have HOUT := Lib.hid (out_snoc (ks := ks) (len_le HI.out.1 hlt))
            have HWP := Lib.hid (HN.out.wp (len_le HI.out.1 hlt))
            have hps := pre_sum (fun x hx => (HI.out.2.2.rows x hx).1) (isIn ks) (L := L) (j + 1)
            have hns := HN.out.sum
            have HPS : Hid (isIn ks (gt L j) = true → one.rows + (gt L j).rows ≤ most) := Lib.hid fun hin => by
              rw [(HIN.out hin).1, sumR_app] at hps
              have e1 : sumR [gt L j] = (gt L j).rows := by simp [sumR]
              have e2 : one.rows = sumR ((L.take j).filter (isIn ks)) := by rw [HS.out.eq1]; exact oneOf_sum _
              omega
            clear hcell hps hns
            generalize gt L j = x at *
            obtain ⟨hx0, hx1⟩ := hx
            subst hA
            have HB7 := Lib.hid hb7
            clear hb7
            go_wp2
            have hb78 : Below w7.heap.size w7 (w7.alloc (.cells #[.string x.key, .int .i64 x.window, .string x.part, .int .i64 x.first, .int .i64 x.last, .int .i64 x.rows, .int .i64 x.size, .int .u32 x.sum, .int .i64 x.born] 29)) := (Below.refl _ _).alloc (Nat.le_refl _) _
            have HBK8 : Hid (Blk (w7.alloc (.cells #[.string x.key, .int .i64 x.window, .string x.part, .int .i64 x.first, .int .i64 x.last, .int .i64 x.rows, .int .i64 x.size, .int .u32 x.sum, .int .i64 x.born] 29)) w7.heap.size 29 #[.string x.key, .int .i64 x.window, .string x.part, .int .i64 x.first, .int .i64 x.last, .int .i64 x.rows, .int .i64 x.size, .int .u32 x.sum, .int .i64 x.born]) := Lib.hid (Blk.new _ _ _)
            have hs8 : w7.heap.size < (w7.alloc (.cells #[.string x.key, .int .i64 x.window, .string x.part, .int .i64 x.first, .int .i64 x.last, .int .i64 x.rows, .int .i64 x.size, .int .u32 x.sum, .int .i64 x.born] 29)).heap.size := by simp
            have HB78 := Lib.hid hb78
            have HS8 := Lib.hid (HS.out.below hb78)
            have HB8 := Lib.hid (HB7.out.trans (hb78.mono hs7))
            have HK8 : Hid (Strs (w7.alloc (.cells #[.string x.key, .int .i64 x.window, .string x.part, .int .i64 x.first, .int .i64 x.last, .int .i64 x.rows, .int .i64 x.size, .int .u32 x.sum, .int .i64 x.born] 29)) w5.heap.size A5 ks) := Lib.hid (HK5.out.below (HB7.out.trans (hb78.mono hs7)))
            clear hb78
            generalize w7.alloc (.cells #[.string x.key, .int .i64 x.window, .string x.part, .int .i64 x.first, .int .i64 x.last, .int .i64 x.rows, .int .i64 x.size, .int .u32 x.sum, .int .i64 x.born] 29) = w8 at *
            obtain ⟨x0, x1, x2, x3, x4, x5, x6, x7, x8⟩ := Blk.nine HBK8.out
            go_loop [13, 57] (fun vb vq => ∃ (q : Nat) (b : Bool), q ≤ kn ∧ vq = .int .i64 (q : Int) ∧ vb = .bool b ∧ Hid (b = isIn (ks.take q) x)) (fun _ vq => kn - (intOf vq).toNat)
            case atStart => exact ⟨0, false, Nat.zero_le _, rfl, rfl, Lib.hid (by simp [isIn])⟩
            case round =>
              obtain ⟨q, b, hqk, rfl, rfl, HQ⟩ := hrel
              by_cases hql : q < kn
              · obtain ⟨bK, oK, hAK, _, hck⟩ := HK8.out.cellAt (by rw [← HKN.out]; omega)
                have hk := hck q (by rw [← HKN.out]; exact hql)
                have HSN := Lib.hid (isIn_snoc (ks := ks) (q := q) (by rw [← HKN.out]; exact hql) x)
                generalize strAt ks q = y at *
                subst hAK
                clear hck
                cases b
                · by_cases he : y = x.key
                  · have t1 : (y.toList == x.key.toList) = true := by rw [bytes_eqm]; exact dct he
                    have HQ2 : Hid (true = isIn (ks.take (q + 1)) x) := Lib.hid (by rw [HSN.out, dct he, Bool.or_true])
                    clear he
                    go_wp2
                    go_round
                    case rel => exact ⟨q + 1, true, by omega, by go_num, rfl, HQ2⟩
                    case measure => simp [intOf]; omega
                  · have t1 : (y.toList == x.key.toList) = false := by rw [bytes_eqm]; exact dcf he
                    have HQ2 : Hid (false = isIn (ks.take (q + 1)) x) := Lib.hid (by rw [HSN.out, dcf he, Bool.or_false]; exact HQ.out)
                    clear he
                    go_wp2
                    go_round
                    case rel => exact ⟨q + 1, false, by omega, by go_num, rfl, HQ2⟩
                    case measure => simp [intOf]; omega
                · have HQ2 : Hid (true = isIn (ks.take (q + 1)) x) := Lib.hid (by rw [HSN.out, ← HQ.out, Bool.true_or])
                  go_wp2
                  go_round
                  case rel => exact ⟨q + 1, true, by omega, by go_num, rfl, HQ2⟩
                  case measure => simp [intOf]; omega
              · obtain rfl : q = kn := by omega
                have HQ3 : Hid (b = isIn ks x) := Lib.hid (by have := HQ.out; rwa [List.take_of_length_le (by rw [← HKN.out]; exact Nat.le_refl _)] at this)
                cases b
                · have HO := Lib.hid (HOUT.out HQ3.out.symm)
                  go_wp2_with (at_builtin; go_must (refine wpList_append_sl _ rfl (.tmp 78) (.tmp 80) _ rfl w5.heap.size 29 _ 9 88 Try.underlying22 Try.infoEnt rfl (by omega) _ _ _ rfl (HS8.out.own.alloc _) (w8.heap.size + 1) _ 1 1 (nine Ent.c x) rfl (Reads.made (n := 1) (size := 9) w8 _ _ rfl) (by intro u hu; simp [nine] at hu; rcases hu with rfl | rfl | rfl | rfl | rfl | rfl | rfl | rfl | rfl <;> exact Ent.one x _) (by unfold maxLen; omega) (by omega) (by simp; omega) ?_))
                  intro Aa ca wa hca1 hca2 hrda hbela howna hga hba
                  have HSa : Hid (St wa w5.heap.size g ks L (j + 1) (rn + 1) (.slice Aa (rn + 1) ca) one) := Lib.hid ⟨by rw [HO.out.2, List.length_append, HS8.out.len]; rfl, by rw [HO.out.2, flat_app]; simpa [flat] using howna, by
                    rcases hba with hba | hba
                    · rw [hba]; exact HS8.out.ne
                    · rw [hba]; simp; omega, by rw [HO.out.1]; exact HS8.out.eq1, (HS8.out.blk.alloc _).grown hga (fun e => HS8.out.ne e.symm)⟩
                  have HBa := Lib.hid ((HB8.out.alloc (by omega) _).trans hbela)
                  clear howna hrda hbela hga hba hca1 hca2
                  go_wp2
                  go_roundw
                  case rel => exact ⟨j + 1, rn + 1, Aa, ca, one, by omega, by omega, by go_num, rfl, HSa, HBa.out⟩
                  case measure => simp [intOf]; omega
                · have HO := Lib.hid (HIN.out HQ3.out.symm)
                  have hsum := HPS.out HQ3.out.symm
                  obtain ⟨o0, o1, o2, o3, o4, o5, o6, o7, o8⟩ := Blk.nine HS8.out.blk
                  have f0 := HS8.out.blk.frozen 0
                  have f1 := HS8.out.blk.frozen 1
                  have f2 := HS8.out.blk.frozen 2
                  have f3 := HS8.out.blk.frozen 3
                  have f4 := HS8.out.blk.frozen 4
                  have f5 := HS8.out.blk.frozen 5
                  have f6 := HS8.out.blk.frozen 6
                  have f7 := HS8.out.blk.frozen 7
                  have f8 := HS8.out.blk.frozen 8
                  have hrf : ∀ y ∈ (L.take j).filter (isIn ks), 1 ≤ y.rows := fun y hy => (HI.out.2.2.rows y (List.mem_of_mem_take (List.mem_filter.1 hy).1)).1
                  have h00 := oneOf_rows hrf
                  rw [← HS8.out.eq1] at h00
                  by_cases hF : (L.take j).filter (isIn ks) = []
                  · have t1 : (one.rows == 0) = true := eqt (h00.2 hF)
                    have HSa : Hid (St (w8.setCells g 0 [.string x.key, .int .i64 x.window, .string x.part, .int .i64 x.first, .int .i64 x.last, .int .i64 x.rows, .int .i64 x.size, .int .u32 x.sum, .int .i64 x.born]) w5.heap.size g ks L (j + 1) rn (.slice A9 rn c9) x) := Lib.hid ⟨by rw [HO.out.2]; exact HS8.out.len, by rw [HO.out.2]; exact own_not HS8.out.own (only_sets g _ _ _) HS8.out.ne, HS8.out.ne, by rw [HO.out.1, hF]; show x = { x with rows := x.rows + sumR [] }; simp [sumR], Blk.putE HS8.out.blk x⟩
                    have HBa : Hid (Below w5.heap.size w5 (w8.setCells g 0 [.string x.key, .int .i64 x.window, .string x.part, .int .i64 x.first, .int .i64 x.last, .int .i64 x.rows, .int .i64 x.size, .int .u32 x.sum, .int .i64 x.born])) := Lib.hid (HB8.out.trans ((only_sets g _ _ _).below (by omega) (by omega)))
                    clear hF h00 hrf
                    go_wp2
                    go_roundw
                    case rel => exact ⟨j + 1, rn, A9, c9, x, by omega, by omega, by go_num, rfl, HSa, HBa.out⟩
                    case measure => simp [intOf]; omega
                  · have t1 : (one.rows == 0) = false := eqf fun h => hF (h00.1 h)
                    have hwp := HWP.out HQ3.out.symm hF
                    rw [← HS8.out.eq1] at hwp
                    have t2 : (one.window != x.window) = false := nef hwp.1
                    have t3 : (one.part.toList == x.part.toList) = true := by rw [bytes_eqm]; exact dct hwp.2
                    have HSa : Hid (St (w8.setCell ⟨g, 5, none⟩ (.int .i64 (one.rows + x.rows))) w5.heap.size g ks L (j + 1) rn (.slice A9 rn c9) { one with rows := one.rows + x.rows }) := Lib.hid ⟨by rw [HO.out.2]; exact HS8.out.len, by rw [HO.out.2]; exact own_not HS8.out.own ((Only.refl g w8).setCell (.inl rfl) _) HS8.out.ne, HS8.out.ne, by rw [HO.out.1, oneOf_snoc _ _ hF, ← HS8.out.eq1], by
                      have := HS8.out.blk.set_ 5 (.int .i64 (one.rows + x.rows))
                      simp only [List.setIfInBounds_toArray, List.set_cons_zero, List.set_cons_succ] at this
                      exact this⟩
                    have HBa : Hid (Below w5.heap.size w5 (w8.setCell ⟨g, 5, none⟩ (.int .i64 (one.rows + x.rows)))) := Lib.hid (HB8.out.setCell (by show _ ≤ g; omega) _)
                    clear hF h00 hrf hwp
                    go_wp2
                    go_roundw
                    case rel => exact ⟨j + 1, rn, A9, c9, _, by omega, by omega, by go_num, rfl, HSa, HBa.out⟩
                    case measure => simp [intOf]; omega
          · obtain rfl : j = m := by omega
            have hrl := rest_len HN.out
            have HSE : Hid (((L.filter fun x => !isIn ks x).length = rn) ∧ w7.ownsRow w5.heap.size 29 9 (.slice A9 rn c9) rn (flat Ent.c (L.filter fun x => !isIn ks x)) ∧ one = oneOf (L.filter (isIn ks)) ∧ Blk w7 g 29 #[.string one.key, .int .i64 one.window, .string one.part, .int .i64 one.first, .int .i64 one.last, .int .i64 one.rows, .int .i64 one.size, .int .u32 one.sum, .int .i64 one.born]) := Lib.hid (by
              have h1 := HS.out.len
              have h2 := HS.out.own
              have h3 := HS.out.eq1
              rw [List.take_of_length_le (by rw [HI.out.1]; exact Nat.le_refl _)] at h1 h2 h3
              exact ⟨h1, h2, h3, HS.out.blk⟩)
            rw [HSE.out.1, HI.out.1] at hrl
            have HGN := Lib.hid (next_good HI.out.2.2 hm1 HN.out)
            obtain ⟨o0, o1, o2, o3, o4, o5, o6, o7, o8⟩ := Blk.nine HSE.out.2.2.2
            have t1 : decide ((j : Int) - 2 < (rn : Int)) = false := dcf (by omega)
            have t2 : decide (most < one.rows) = false := dcf (by omega)
            go_wp2_with (at_builtin; go_must (refine wpList_append_sl _ rfl (.tmp 113) (.tmp 115) _ rfl w5.heap.size 29 _ 9 88 Try.underlying22 Try.infoEnt rfl (by omega) _ _ _ rfl (HSE.out.2.1.alloc _) (w7.heap.size + 1) _ 1 1 (nine Ent.c one) rfl (Reads.made (n := 1) (size := 9) w7 _ _ rfl) (by intro u hu; simp [nine] at hu; rcases hu with rfl | rfl | rfl | rfl | rfl | rfl | rfl | rfl | rfl <;> exact Ent.one one _) (by unfold maxLen; omega) (by omega) (by simp; omega) ?_))
            intro Aa ca wa hca1 hca2 hrda hbela howna hga hba
            have HNX : Hid (((L.filter fun x => !isIn ks x) ++ [one]).length = rn + 1 ∧ Ents wa wa.heap.size Aa ((L.filter fun x => !isIn ks x) ++ [one]) ∧ GoodL ((L.filter fun x => !isIn ks x) ++ [one])) := Lib.hid (by
              have e1 : ((L.filter fun x => !isIn ks x) ++ [one]).length = rn + 1 := by rw [List.length_append, HSE.out.1]; rfl
              refine ⟨e1, ?_, by rw [HSE.out.2.2.1]; exact HGN.out⟩
              unfold Ents
              rw [e1, flat_app]
              simpa [flat] using hrda)
            have HBa := Lib.hid (HB5.out.trans (((hb7.alloc hs7 _).trans hbela).mono (by omega)))
            clear howna hrda hbela hga hba
            go_wp2
            go_roundw
            case rel => exact ⟨k + 1, rn + 1, Aa, ca, _, by go_num, rfl, by omega, hca1, HNX, HBa.out⟩
            case measure => simp [intOf]; omega

theorem walk {H : Type} {enc : TypeId × Value → H} {W : World} {base : Nat} {v0 v1 v2 : Value} {d0 d1 d2 : DataW H} {p0 p1 p2 : List MemPlace} (g0 : Arg enc Try.prog W base 22 v0 d0 p0) (g1 : Arg enc Try.prog W base 3 v1 d1 p1) (g2 : Arg enc Try.prog W base 3 v2 d2 p2) :
    Calls Try.prog 4 #[v0, v1, v2] W fun e w' => e = .returned (.bool true) ∧ Below W.heap.size W w' := by
  obtain ⟨A, c, l, rfl, hc, hl, hL, hF⟩ := arg_ents g0
  obtain ⟨small, rfl, _, _⟩ := g1.int Try.underlying3
  obtain ⟨most, rfl, _, _⟩ := g2.int Try.underlying3
  by_cases hm : most < 0 ∨ 1099511627776 < most
  · exact early W small most hL (Nat.le_refl _) hl hF hm
  · exact body W small most hL (Nat.le_refl _) hl hc hF (by omega) (by omega)
end Go.Proofs.Ytophfgijfmdbcaa.lawMergeEnds
