/- BayPlays: the walk. -/
import Derived.Test.YtepfggfideianaaProg
import Derived.Test.YtepfggfideianaaByI
namespace Go.Proofs.Ytepfggfideianaa.lawBayPlays
open Go.RowKit Go.Conc Go.Proofs.Ytepfggfideianaa Go.Proofs.Ytepfggfideianaa.By

set_option maxRecDepth 100000 in
set_option maxHeartbeats 6400000 in
theorem body (w : World) {B c : Nat} {A : Option Addr} {l : List Bt} {room : Int} (h : Bts w B A l) (hB : B ≤ w.heap.size) (hl : l.length ≤ 4398046511104) :
    Calls Try.prog 5 #[.int .i64 room, .slice A l.length c] w fun e w' => e = .returned (.bool true) ∧ Below w.heap.size w w' := by
  have H1 := Lib.hid h
  clear h
  by_cases hr : room < 1 ∨ 2048 < room
  · have HN := Lib.hid (newBay_bad w room hr)
    have hr' : room < 1 ∨ (¬ room < 1 ∧ 2048 < room) := by omega
    clear hr
    have hnil : ∀ W, Calls Try.prog 19 #[.pointer none, .slice (some ⟨(W : World).heap.size, 0, none⟩) 1 1] (W.alloc (.cells #[.string .empty, .int .i64 0] 47)) fun e w' => e = .returned (.bool false) ∧ W.alloc (.cells #[.string .empty, .int .i64 0] 47) = w' := fun W => putBay_nil1 _ _
    have HNIL := Lib.hid hnil
    clear hnil
    by_cases hlen : 60 < l.length
    · have hd : decide (60 < (l.length : Int)) = true := dct (by omega)
      rcases hr' with ha | ⟨ha, hb⟩
      all_goals
        go_enter Try.func5, Try.ntmps5
        go_wp2_with fail
        refine HN.out.mono ?_
        rintro e w1 ⟨rfl, rfl⟩
        go_wp2_with fail
        refine (lives_calls w).mono ?_
        rintro e w1 ⟨rfl, hb1⟩
        go_wp2_with fail
        refine (lives_calls w1).mono ?_
        rintro e w2 ⟨rfl, hb2⟩
        go_wp2
        go_ret
        exact ⟨rfl, hb1.trans (hb2.mono hb1.size)⟩
    · have hd : decide (60 < (l.length : Int)) = false := dcf (by omega)
      rcases hr' with ha | ⟨ha, hb⟩
      all_goals
        go_enter Try.func5, Try.ntmps5
        go_wp2_with fail
        refine HN.out.mono ?_
        rintro e w1 ⟨rfl, rfl⟩
        go_wp2_with fail
        refine (lives_calls w).mono ?_
        rintro e w1 ⟨rfl, hb1⟩
        go_wp2_with fail
        refine (putBay_nil0 w1).mono ?_
        rintro e w2 ⟨rfl, rfl⟩
        go_wp2_with fail
        refine (HNIL.out w1).mono ?_
        rintro e w2 ⟨rfl, rfl⟩
        go_wp2_with fail
        refine (lenBay_nil _).mono ?_
        rintro e w2 ⟨rfl, rfl⟩
        go_wp2_with fail
        refine (mostBay_nil _).mono ?_
        rintro e w2 ⟨rfl, rfl⟩
        go_wp2_with fail
        refine (drainBay_nil _).mono ?_
        rintro e w2 ⟨rfl, rfl⟩
        go_wp2
        go_ret
        exact ⟨rfl, hb1.alloc hb1.size _⟩
  · obtain ⟨r, rfl⟩ : ∃ r : Nat, room = (r : Int) := ⟨room.toNat, by omega⟩
    have hr1 : 1 ≤ r := by omega
    have hr2 : r ≤ 2048 := by omega
    have q1 : decide ((r : Int) < 1) = false := dcf (by omega)
    have q2 : decide (2048 < (r : Int)) = false := dcf (by omega)
    have HN := Lib.hid (newBay_ok w r hr1 hr2)
    clear hr
    by_cases hlen : 60 < l.length
    · have hd : decide (60 < (l.length : Int)) = true := dct (by omega)
      go_enter Try.func5, Try.ntmps5
      go_wp2_with fail
      refine HN.out.mono ?_
      rintro e w1 ⟨gb, bm, rfl, -, hb1⟩
      go_wp2_with fail
      refine (lives_calls w1).mono ?_
      rintro e w2 ⟨rfl, hb2⟩
      have hb12 := hb1.trans (hb2.mono hb1.size)
      go_wp2_with fail
      refine (lives_calls w2).mono ?_
      rintro e w3 ⟨rfl, hb3⟩
      go_wp2
      go_ret
      exact ⟨rfl, hb12.trans (hb3.mono hb12.size)⟩
    · have hl60 : l.length ≤ 60 := by omega
      have hd : decide (60 < (l.length : Int)) = false := dcf (by omega)
      go_enter Try.func5, Try.ntmps5
      go_wp2_with fail
      refine HN.out.mono ?_
      rintro e w1 ⟨gb, bm, rfl, ha1, hb1⟩
      go_wp2_with fail
      refine (lives_calls w1).mono ?_
      rintro e w2 ⟨rfl, hb2⟩
      have HA2 := Lib.hid (ha1.below hb2)
      have HW2 : Hid (Below w.heap.size w w2) := Lib.hid (hb1.trans (hb2.mono hb1.size))
      have hs2 := HW2.out.size
      clear ha1 hb1 hb2
      go_wp2
      have hb3 := (Below.refl w2.heap.size w2).alloc (Nat.le_refl _) (.cells #[.slice none 0 0, .int .i64 (r : Int)] 53)
      have HA3 := Lib.hid (HA2.out.below hb3)
      have HW3 := Lib.hid (HW2.out.trans (hb3.mono hs2))
      have HR3 := Lib.hid (RB.new w2 r)
      have hgw : gb < w2.heap.size := HA2.out.lt_gb
      have hgw2 : w.heap.size ≤ w2.heap.size := hs2
      clear hb3 HA2 HW2 hs2
      generalize w2.alloc (.cells #[.slice none 0 0, .int .i64 (r : Int)] 53) = w3 at *
      generalize w2.heap.size = gw at *
      go_loopw [73] (fun i wr => ∃ (j : Nat) (m : List (ByteArray × Nat)) (L : List KX), j ≤ l.length ∧ i = .int .i64 (j : Int) ∧ L.length ≤ 40 * j ∧ Hid (BayAt wr w.heap.size gb bm r m L) ∧ Hid (RB wr gw r L) ∧ Hid (Below w.heap.size w wr)) (fun i _ => l.length - (intOf i).toNat)
      case atStart => exact ⟨0, [], [], Nat.zero_le _, rfl, Nat.zero_le _, HA3, HR3, HW3⟩
      case round =>
        obtain ⟨j, m, L, hj, rfl, hLj, HA, HR, HW⟩ := hrel
        obtain ⟨wo, rfl⟩ : ∃ wo : World, wo = wr := ⟨_, rfl⟩
        have hso := HW.out.size
        clear HA3 HR3 HW3 HN
        by_cases hlt : j < l.length
        · have r1 := H1.out.below (HW.out.mono hB)
          obtain ⟨b1, o1, e1, hb1, hc1⟩ := r1.cells_ (by omega)
          obtain ⟨x0, x1⟩ := hc1 j hlt
          have i0 : (0 : Int) ≤ (j : Int) := by omega
          have i9 : (j : Int) < (l.length : Int) := by omega
          have HX := Lib.hid (r1.each _ (bt_mem hlt))
          clear r1 hc1
          subst e1
          generalize bt l j = x at *
          by_cases h40 : 40 < x.L.length
          · have hd4 : decide (40 < (x.L.length : Int)) = true := dct (by omega)
            go_wp2
            go_ret
            exact ⟨rfl, HW.out.alloc hso _⟩
          · have hX40 : x.L.length ≤ 40 := by omega
            have hL24 : L.length ≤ 2400 := by omega
            have hd4 : decide (40 < (x.L.length : Int)) = false := dcf (by omega)
            clear h40
            obtain ⟨xA, xc, xL, xd⟩ := x
            dsimp only at *
            have hb4 := (Below.refl wo.heap.size wo).alloc (Nat.le_refl _) (.cells #[.slice xA xL.length xc, .bool xd] 55)
            have HX4 := Lib.hid (HX.out.below (hb4.mono (Nat.le_trans hB hso))).kx
            have HA4 := Lib.hid (HA.out.below hb4)
            have HR4 := Lib.hid (HR.out.below hb4)
            have HW4 := Lib.hid (HW.out.trans (hb4.mono hso))
            have HK4 := Lib.hid (Blk.new wo 55 #[.slice xA xL.length xc, .bool xd])
            have hs4 : wo.heap.size < (wo.alloc (.cells #[.slice xA xL.length xc, .bool xd] 55)).heap.size := by simp
            have hgx : gw < wo.heap.size := HR.out.lt
            clear hb4 HX HA HR HW
            go_upto_region 12 with fail
            go_cut [90] (fun v90 wx => ∃ (m7 : List (ByteArray × Nat)) (L7 : List KX), L7.length ≤ 40 * j ∧ v90 = .bool false ∧ Hid (BayAt wx w.heap.size gb bm r m7 L7) ∧ Hid (RB wx gw r L7) ∧ Hid (Below w.heap.size w wx) ∧ Hid (KXs wx B xA xL) ∧ Hid (∃ d, Blk wx wo.heap.size 55 #[.slice xA xL.length xc, .bool d]))
            case first =>
              cases xd
              · go_wp2_with fail
                go_meet
                exact ⟨m, L, hLj, rfl, Lib.hid HA4.out, Lib.hid HR4.out, Lib.hid HW4.out, Lib.hid HX4.out, Lib.hid ⟨_, HK4.out⟩⟩
              · go_wp2_with fail
                clear x0 x1
                generalize wo.alloc (.cells #[.slice xA xL.length xc, .bool true] 55) = w4 at *
                have HSO := Lib.hid HA4.out.map.srt
                have HHE := Lib.hid HA4.out.held
                refine (drainBay_calls w4 HA4.out (by omega) hr2).mono ?_
                rintro e w5 ⟨A5, c5, rfl, hrow5, ha5, hb5, hc5⟩
                have HA5 := Lib.hid ha5
                have HR5 := Lib.hid (HR4.out.ck hc5)
                have HW5 := Lib.hid (HW4.out.trans hb5)
                have HX5 := Lib.hid (HX4.out.ck hc5)
                have HK5 := Lib.hid (hc5.blk HK4.out)
                have HO5 := Lib.hid hrow5
                have hs5 : wo.heap.size < w5.heap.size := HK5.out.lt
                clear hrow5 ha5 hb5 hc5 HA4 HR4 HW4 HX4 HK4
                go_wp2_with fail
                refine (rdrain_calls w5 HR5.out (by omega)).mono ?_
                rintro e w6 ⟨A6, c6, o6, rfl, hso6, hse6, hol6, hk6, hr6, ho6⟩
                have ED : Hid (drn m L = o6) := Lib.hid (drn_eq HSO.out HHE.out hso6 hse6)
                rw [ED.out] at HO5 ⊢
                have HNE : gb ≠ gw := by omega
                have ho9 : o6.length ≤ 1000000 := by omega
                obtain ⟨AR, cR, hBR, -⟩ := HR5.out
                have HA6 := Lib.hid (HA5.out.cells ho6 hBR HNE)
                have hb6 : Below w.heap.size w5 w6 := ho6.below hgw2 HW5.out.size
                have HW6 := Lib.hid (HW5.out.trans hb6)
                have HX6 := Lib.hid (HX5.out.below (hb6.mono hB))
                have HK6 := Lib.hid (ho6.blk HK5.out (by omega))
                have HR6 := Lib.hid hr6
                have HSM := Lib.hid (same_calls (c1 := c5) (c2 := c6) w6 (Reads.of_own (own_only HO5.out ho6 (by omega))) hk6 ho9)
                have hs6 : wo.heap.size < w6.heap.size := HK6.out.lt
                clear hso6 hse6 hk6 hr6 ho6 hb6 hBR HA5 HR5 HW5 HX5 HK5 HO5 hol6
                go_wp2_with fail
                refine HSM.out.mono ?_
                rintro e w7 ⟨rfl, hb7⟩
                have HA7 := Lib.hid (HA6.out.below hb7)
                have HR7 := Lib.hid (HR6.out.below hb7)
                have HW7 := Lib.hid (HW6.out.trans (hb7.mono HW6.out.size))
                have HX7 := Lib.hid (HX6.out.below (hb7.mono (by omega)))
                have HK7 := Lib.hid (HK6.out.below hb7 hs6)
                have hs8 : wo.heap.size < w7.heap.size := HK7.out.lt
                have hL7 : ([] : List KX).length ≤ 40 * j := Nat.zero_le _
                clear hb7 HSM HA6 HR6 HW6 HX6 HK6 ED HSO HHE
                go_wp2_with fail
                go_meet
                exact ⟨[], [], Nat.zero_le _, rfl, Lib.hid HA7.out, Lib.hid HR7.out, Lib.hid HW7.out, Lib.hid HX7.out, Lib.hid ⟨_, HK7.out⟩⟩
            case rest =>
              obtain ⟨m7, L7, hL7, rfl, HA7, HR7, HW7, HX7, HK7'⟩ := hcut
              rename World => w7
              clear HA4 HR4 HW4 HX4 HK4 hs4 x0 x1 hLj hL24
              obtain ⟨dr, hk7'⟩ := HK7'.out
              have HK7 := Lib.hid hk7'
              have hs8 := hk7'.lt
              clear hk7' HK7'
              generalize wo.heap.size = gx at *
              have hL724 : L7.length ≤ 2400 := by omega
              have hs7 := HW7.out.size
              have k0 : w7.cell? ⟨gx, 0, none⟩ = some (.slice xA xL.length xc) := HK7.out.cell 0
              have HRMx := Lib.hid HA7.out.room
              obtain ⟨b, hb⟩ : ∃ b, fits r L7 xL = b := ⟨_, rfl⟩
              obtain ⟨N, hN⟩ : ∃ N, (if b = true then L7 ++ xL else L7) = N := ⟨_, rfl⟩
              have hN7 : N.length ≤ 40 * (j + 1) := by
                rw [← hN]
                split
                · rw [List.length_append]; omega
                · omega
              have hN9 : N.length ≤ 1000000 := by omega
              have HPU : Hid (∀ W A' c', BayAt W w.heap.size gb bm r m7 L7 → KXs W W.heap.size A' xL → Calls Try.prog 19 #[.pointer (some ⟨gb, 0, none⟩), .slice A' xL.length c'] W (fun e w' => ∃ m', e = .returned (.bool b) ∧ BayAt w' w.heap.size gb bm r m' N ∧ Below w.heap.size W w' ∧ CK W w')) := Lib.hid fun W A' c' ha hk => (put_calls W ha hk (Nat.le_refl _) hr1 hr2 (by omega) (by omega)).mono fun e w' h => by
                rw [hb] at h
                obtain ⟨m', h1, h2, h3, h4⟩ := h
                rw [hN] at h2
                exact ⟨m', h1, h2, h3, h4⟩
              have HRP : Hid (∀ W, RB W gw r L7 → Reads W B 2 xA xL.length (kxc xL) → B ≤ W.heap.size → Calls Try.prog 26 #[.pointer (some ⟨gw, 0, none⟩), .slice xA xL.length xc] W (fun e w' => e = .returned (.bool b) ∧ RB w' gw r N ∧ Only gw W w')) := Lib.hid fun W ha hk hb' => (rput_calls W ha hk hb' (by omega) (by omega) HRMx.out hr2).mono fun e w' h => by
                rw [hb] at h
                obtain ⟨h1, h2, h3⟩ := h
                rw [hN] at h2
                exact ⟨h1, h2, h3⟩
              have HKE : Hid (Calls Try.prog 25 #[.slice xA xL.length xc] w7.drew (RetKeyed w7.drew xL)) := Lib.hid (keyed_calls w7.drew (HX7.out.below (below_drewN_ (Below.refl _ _) 1)) (by show B ≤ w7.heap.size; omega) (by omega))
              clear hN hb
              have hB7 : B ≤ w7.heap.size := by omega
              have hgg : gx ≠ gw := by omega
              have hne : gb ≠ gw := by omega
              have hbb : (b != b) = false := by simp
              have hnn : ((N.length : Int) != (N.length : Int)) = false := nef rfl
              have HCL : Hid (∀ W, Blk W gx 55 #[.slice xA xL.length xc, .bool dr] → W.cell? ⟨gx, 0, none⟩ = some (.slice xA xL.length xc)) := Lib.hid fun W hW => hW.cell 0
              have hk7 := HK7.out
              go_wp2_with fail
              have hS0 : (fun w' : World => w'.cell? ⟨gx, 0, none⟩ = some (.slice xA xL.length xc)) w7.drew := k0
              refine wp_region_noPanic ?_
              refine wp_region_held_drew (S := fun w' => w'.cell? ⟨gx, 0, none⟩ = some (.slice xA xL.length xc)) (by kernel_rfl) hS0 (fun hHeld => ?_)
              refine wpAnyH_take (i := 0) (oi := _) (v := .pointer (some ⟨gb, 0, none⟩)) rfl (by kernel_rfl) (by kernel_rfl) (by kernel_rfl) (fun _ _ _ h => h) (Or.inl ⟨by rfl, by (intro w hSw; (try dsimp only at hSw); go_simp)⟩) (by assumption) ?_; (try simp only [Act.put, List.setIfInBounds_toArray, List.set_cons_zero, List.set_cons_succ])
              refine wpAnyH_take (i := 1) (oi := _) (v := .pointer (some ⟨gx, 0, none⟩)) rfl (by kernel_rfl) (by kernel_rfl) (by kernel_rfl) (fun _ _ _ h => h) (Or.inl ⟨by rfl, by (intro w hSw; (try dsimp only at hSw); go_simp)⟩) (by assumption) ?_; (try simp only [Act.put, List.setIfInBounds_toArray, List.set_cons_zero, List.set_cons_succ])
              refine wpAnyH_take (i := 2) (oi := _) (v := .slice xA xL.length xc) rfl (by kernel_rfl) (by kernel_rfl) (by kernel_rfl) (fun _ _ _ h => h) (Or.inl ⟨by rfl, by (intro w hSw; (try dsimp only at hSw); go_simp)⟩) (by assumption) ?_; (try simp only [Act.put, List.setIfInBounds_toArray, List.set_cons_zero, List.set_cons_succ])
              refine wpAnyH_take (i := 5) (oi := _) (v := .pointer (some ⟨gw, 0, none⟩)) rfl (by kernel_rfl) (by kernel_rfl) (by kernel_rfl) (fun _ _ _ h => h) (Or.inl ⟨by rfl, by (intro w hSw; (try dsimp only at hSw); go_simp)⟩) (by assumption) ?_; (try simp only [Act.put, List.setIfInBounds_toArray, List.set_cons_zero, List.set_cons_succ])
              refine wpAnyH_take (i := 6) (oi := _) (v := .pointer (some ⟨gx, 0, none⟩)) rfl (by kernel_rfl) (by kernel_rfl) (by kernel_rfl) (fun _ _ _ h => h) (Or.inl ⟨by rfl, by (intro w hSw; (try dsimp only at hSw); go_simp)⟩) (by assumption) ?_; (try simp only [Act.put, List.setIfInBounds_toArray, List.set_cons_zero, List.set_cons_succ])
              refine wpAnyH_take (i := 7) (oi := _) (v := .slice xA xL.length xc) rfl (by kernel_rfl) (by kernel_rfl) (by kernel_rfl) (fun _ _ _ h => h) (Or.inl ⟨by rfl, by (intro w hSw; (try dsimp only at hSw); go_simp)⟩) (by assumption) ?_; (try simp only [Act.put, List.setIfInBounds_toArray, List.set_cons_zero, List.set_cons_succ])
              refine wpAnyH_ready (rs := [3]) (by kernel_rfl) (by simp) ?_; refine AllReadyH.cons (o := _) rfl (fun K hK => ?_) AllReadyH.nil; go_simp
              refine HKE.out.mono ?_
              rintro e wA ⟨AA, cA, rfl, hkA, hbA'⟩
              have hbA : Below w7.heap.size w7 wA := (below_drewN_ (Below.refl _ _) 1).trans hbA'
              have haA := HA7.out.below hbA
              have hrA := HR7.out.below hbA
              have hKA := HK7.out.below hbA hs8
              have hxA := HX7.out.below (hbA.mono hB7)
              have hwA := HW7.out.trans (hbA.mono hs7)
              refine hK.out _ _ (HCL.out _ hKA) (fun hHeld => ?_)
              clear hK K hbA hbA'
              refine wpAnyH_ready (rs := [4]) (by kernel_rfl) (by simp) ?_; refine AllReadyH.cons (o := _) rfl (fun K hK => ?_) AllReadyH.nil; go_simp
              refine (HPU.out _ _ _ haA hkA).mono ?_
              rintro e wB ⟨mB, rfl, haB, hbB, hcB⟩
              have hrB := hrA.ck hcB
              have hKB := hcB.blk hKA
              have hxB := hxA.ck hcB
              have hwB := hwA.trans hbB
              refine hK.out _ _ (HCL.out _ hKB) (fun hHeld => ?_)
              clear hK K haA hrA hKA hxA hwA hkA
              refine wpAnyH_ready (rs := [8]) (by kernel_rfl) (by simp) ?_; refine AllReadyH.cons (o := _) rfl (fun K hK => ?_) AllReadyH.nil; go_simp
              refine (HRP.out _ hrB hxB.reads (Nat.le_trans hB hwB.size)).mono ?_
              rintro e wC ⟨rfl, hrC, hoC⟩
              obtain ⟨AR, cR, hBR, -⟩ := hrB
              have haC := haB.cells hoC hBR hne
              have hKC := hoC.blk hKB hgg
              have hwC : Below w.heap.size w wC := hwB.trans (hoC.below hgw2 hwB.size)
              obtain ⟨AN, cN, hBN, -⟩ := (show RB wC gw r N from hrC)
              refine hK.out _ _ (HCL.out _ hKC) (fun hHeld => ?_)
              clear hK K
              have HC2 : Hid (∀ W, Blk W gx 55 #[.slice xA xL.length xc, .bool dr] → Blk W gw 53 #[.slice AN N.length cN, .int .i64 (r : Int)] → W.cell? ⟨gx, 0, none⟩ = some (.slice xA xL.length xc) ∧ W.cell? ⟨gw, 0, none⟩ = some (.slice AN N.length cN)) := Lib.hid fun W h1 h2 => ⟨h1.cell 0, h2.cell 0⟩
              refine wpAnyH_strong (S2 := fun w' => w'.cell? ⟨gx, 0, none⟩ = some (.slice xA xL.length xc) ∧ w'.cell? ⟨gw, 0, none⟩ = some (.slice AN N.length cN)) (fun _ h => h.1) _ _ _ _ ?_
              have hHeld2 := HC2.out _ hKC hBN
              clear haB hBR hKB hxB hwB hbB hcB hoC
              refine wpAnyH_take (i := 9) (oi := _) (v := .bool false) rfl (by kernel_rfl) (by kernel_rfl) (by kernel_rfl) (fun _ _ _ h => h) (Or.inl ⟨by rfl, by (intro w hSw; (try dsimp only at hSw); go_simp)⟩) (by assumption) ?_; (try simp only [Act.put, List.setIfInBounds_toArray, List.set_cons_zero, List.set_cons_succ])
              refine wpAnyH_take (i := 10) (oi := _) (v := .bool false) rfl (by kernel_rfl) (by kernel_rfl) (by kernel_rfl) (fun _ _ _ h => h) (Or.inl ⟨by rfl, by (intro w hSw; (try dsimp only at hSw); go_simp)⟩) (by assumption) ?_; (try simp only [Act.put, List.setIfInBounds_toArray, List.set_cons_zero, List.set_cons_succ])
              refine wpAnyH_take (i := 11) (oi := _) (v := .pointer (some ⟨gb, 0, none⟩)) rfl (by kernel_rfl) (by kernel_rfl) (by kernel_rfl) (fun _ _ _ h => h) (Or.inl ⟨by rfl, by (intro w hSw; (try dsimp only at hSw); go_simp)⟩) (by assumption) ?_; (try simp only [Act.put, List.setIfInBounds_toArray, List.set_cons_zero, List.set_cons_succ])
              refine wpAnyH_take (i := 13) (oi := _) (v := .pointer (some ⟨gw, 0, none⟩)) rfl (by kernel_rfl) (by kernel_rfl) (by kernel_rfl) (fun _ _ _ h => h) (Or.inl ⟨by rfl, by (intro w hSw; (try dsimp only at hSw); go_simp)⟩) (by assumption) ?_; (try simp only [Act.put, List.setIfInBounds_toArray, List.set_cons_zero, List.set_cons_succ])
              refine wpAnyH_take (i := 14) (oi := _) (v := .pointer (some ⟨gw, 0, none⟩)) rfl (by kernel_rfl) (by kernel_rfl) (by kernel_rfl) (fun _ _ _ h => h) (Or.inl ⟨by rfl, by (intro w hSw; (try dsimp only at hSw); go_simp)⟩) (by assumption) ?_; (try simp only [Act.put, List.setIfInBounds_toArray, List.set_cons_zero, List.set_cons_succ])
              refine wpAnyH_take (i := 15) (oi := _) (v := .pointer (some ⟨gw, 0, none⟩)) rfl (by kernel_rfl) (by kernel_rfl) (by kernel_rfl) (fun _ _ _ h => h) (Or.inl ⟨by rfl, by (intro w hSw; (try dsimp only at hSw); go_simp)⟩) (by assumption) ?_; (try simp only [Act.put, List.setIfInBounds_toArray, List.set_cons_zero, List.set_cons_succ])
              refine wpAnyH_take (i := 16) (oi := _) (v := .slice AN N.length cN) rfl (by kernel_rfl) (by kernel_rfl) (by kernel_rfl) (fun _ _ _ h => h) (Or.inl ⟨by rfl, by (intro w hSw; (try dsimp only at hSw); go_simp)⟩) (by assumption) ?_; (try simp only [Act.put, List.setIfInBounds_toArray, List.set_cons_zero, List.set_cons_succ])
              refine wpAnyH_take (i := 17) (oi := _) (v := .int .i64 (N.length : Int)) rfl (by kernel_rfl) (by kernel_rfl) (by kernel_rfl) (fun _ _ _ h => h) (Or.inl ⟨by rfl, by (intro w hSw; (try dsimp only at hSw); go_simp)⟩) (by assumption) ?_; (try simp only [Act.put, List.setIfInBounds_toArray, List.set_cons_zero, List.set_cons_succ])
              refine wpAnyH_ready (rs := [12]) (by kernel_rfl) (by simp) ?_; refine AllReadyH.cons (o := _) rfl (fun K hK => ?_) AllReadyH.nil; go_simp
              refine (lenBay_calls wC haC hN9).mono ?_
              rintro e wD ⟨rfl, hbD⟩
              have haD := haC.below hbD
              have hrD := hrC.below hbD
              have hKD := hKC.below hbD hKC.lt
              have hND := hBN.below hbD hBN.lt
              have hwD := hwC.trans (hbD.mono hwC.size)
              refine hK.out _ _ (HC2.out _ hKD hND) (fun hHeld => ?_)
              clear hK K haC hrC hKC hBN hwC hbD
              refine wpAnyH_take (i := 18) (oi := _) (v := .bool false) rfl (by kernel_rfl) (by kernel_rfl) (by kernel_rfl) (fun _ _ _ h => h) (Or.inl ⟨by rfl, by (intro w hSw; (try dsimp only at hSw); go_simp)⟩) (by assumption) ?_; (try simp only [Act.put, List.setIfInBounds_toArray, List.set_cons_zero, List.set_cons_succ])
              refine wpAnyH_take (i := 19) (oi := _) (v := .bool false) rfl (by kernel_rfl) (by kernel_rfl) (by kernel_rfl) (fun _ _ _ h => h) (Or.inl ⟨by rfl, by (intro w hSw; (try dsimp only at hSw); go_simp)⟩) (by assumption) ?_; (try simp only [Act.put, List.setIfInBounds_toArray, List.set_cons_zero, List.set_cons_succ])
              refine wpAnyH_take (i := 20) (oi := _) (v := .bool false) rfl (by kernel_rfl) (by kernel_rfl) (by kernel_rfl) (fun _ _ _ h => h) (Or.inl ⟨by rfl, by (intro w hSw; (try dsimp only at hSw); go_simp)⟩) (by assumption) ?_; (try simp only [Act.put, List.setIfInBounds_toArray, List.set_cons_zero, List.set_cons_succ])
              refine wpAnyH_take (i := 21) (oi := _) (v := .pointer (some ⟨gb, 0, none⟩)) rfl (by kernel_rfl) (by kernel_rfl) (by kernel_rfl) (fun _ _ _ h => h) (Or.inl ⟨by rfl, by (intro w hSw; (try dsimp only at hSw); go_simp)⟩) (by assumption) ?_; (try simp only [Act.put, List.setIfInBounds_toArray, List.set_cons_zero, List.set_cons_succ])
              refine wpAnyH_take (i := 23) (oi := _) (v := .pointer (some ⟨gw, 0, none⟩)) rfl (by kernel_rfl) (by kernel_rfl) (by kernel_rfl) (fun _ _ _ h => h) (Or.inl ⟨by rfl, by (intro w hSw; (try dsimp only at hSw); go_simp)⟩) (by assumption) ?_; (try simp only [Act.put, List.setIfInBounds_toArray, List.set_cons_zero, List.set_cons_succ])
              refine wpAnyH_ready (rs := [22]) (by kernel_rfl) (by simp) ?_; refine AllReadyH.cons (o := _) rfl (fun K hK => ?_) AllReadyH.nil; go_simp
              refine (mostBay_calls wD haD hN9).mono ?_
              rintro e wE ⟨n1, rfl, hm1, hn1, hbE⟩
              have haE := haD.below hbE
              have hrE := hrD.below hbE
              have hKE := hKD.below hbE hKD.lt
              have hNE := hND.below hbE hND.lt
              have hwE := hwD.trans (hbE.mono hwD.size)
              refine hK.out _ _ (HC2.out _ hKE hNE) (fun hHeld => ?_)
              clear hK K haD hrD hKD hND hwD hbE
              refine wpAnyH_ready (rs := [24]) (by kernel_rfl) (by simp) ?_; refine AllReadyH.cons (o := _) rfl (fun K hK => ?_) AllReadyH.nil; go_simp
              refine (rmost_calls wE hrE hN9).mono ?_
              rintro e wF ⟨n2, rfl, hm2, hn2, hbF⟩
              obtain rfl := most_same haE.held hm1 hm2
              have hnn1 : ((n1 : Int) != (n1 : Int)) = false := nef rfl
              have HAF := Lib.hid (haE.below hbF)
              have HRF := Lib.hid (hrE.below hbF)
              have hKF := hKE.below hbF hKE.lt
              have hNF := hNE.below hbF hNE.lt
              have HWF := Lib.hid (hwE.trans (hbF.mono hwE.size))
              refine hK.out _ _ (HC2.out _ hKF hNF) (fun hHeld => ?_)
              clear hK K haE hrE hKE hNE hwE hbF hm1 hm2
              refine wpAnyH_take (i := 25) (oi := _) (v := .bool false) rfl (by kernel_rfl) (by kernel_rfl) (by kernel_rfl) (fun _ _ _ h => h) (Or.inl ⟨by rfl, by (intro w hSw; (try dsimp only at hSw); go_simp)⟩) (by assumption) ?_; (try simp only [Act.put, List.setIfInBounds_toArray, List.set_cons_zero, List.set_cons_succ])
              refine wpAnyH_take (i := 26) (oi := _) (v := .bool false) rfl (by kernel_rfl) (by kernel_rfl) (by kernel_rfl) (fun _ _ _ h => h) (Or.inl ⟨by rfl, by (intro w hSw; (try dsimp only at hSw); go_simp)⟩) (by assumption) ?_; (try simp only [Act.put, List.setIfInBounds_toArray, List.set_cons_zero, List.set_cons_succ])
              refine wpAnyH_done (by kernel_rfl) ?_ _
              refine NoPanic.normal ?_
              go_wp2
              go_roundw
              case rel => exact ⟨j + 1, mB, N, by omega, by go_num, hN7, HAF, HRF, HWF⟩
              case measure => simp [intOf]; omega
        · obtain rfl : j = l.length := by omega
          have hL24 : L.length ≤ 2400 := by omega
          have HSO := Lib.hid HA.out.map.srt
          have HHE := Lib.hid HA.out.held
          go_wp2_with fail
          refine (drainBay_calls wo HA.out (by omega) hr2).mono ?_
          rintro e w5 ⟨A5, c5, rfl, hrow5, ha5, hb5, hc5⟩
          have HA5 := Lib.hid ha5
          have HR5 := Lib.hid (HR.out.ck hc5)
          have HW5 := Lib.hid (HW.out.trans hb5)
          have HO5 := Lib.hid hrow5
          have hgx : gw < wo.heap.size := HR.out.lt
          clear hrow5 ha5 hb5 hc5
          go_wp2_with fail
          refine (rdrain_calls w5 HR5.out (by omega)).mono ?_
          rintro e w6 ⟨A6, c6, o6, rfl, hso6, hse6, hol6, hk6, hr6, ho6⟩
          have ED : Hid (drn m L = o6) := Lib.hid (drn_eq HSO.out HHE.out hso6 hse6)
          rw [ED.out] at HO5 ⊢
          have HNE : gb ≠ gw := by omega
          have ho9 : o6.length ≤ 1000000 := by omega
          obtain ⟨AR, cR, hBR, -⟩ := HR5.out
          have HA6 := Lib.hid (HA5.out.cells ho6 hBR HNE)
          have hb6 : Below w.heap.size w5 w6 := ho6.below hgw2 HW5.out.size
          have HW6 := Lib.hid (HW5.out.trans hb6)
          have HSM := Lib.hid (same_calls (c1 := c5) (c2 := c6) w6 (Reads.of_own (own_only HO5.out ho6 (by omega))) hk6 ho9)
          clear hso6 hse6 hk6 hr6 ho6 hb6 hBR HA5 HR5 HW5 HO5 hol6
          go_wp2_with fail
          refine HSM.out.mono ?_
          rintro e w7 ⟨rfl, hb7⟩
          have HA7 := Lib.hid (HA6.out.below hb7)
          have HW7 := Lib.hid (HW6.out.trans (hb7.mono HW6.out.size))
          have HLE := Lib.hid (lenBay_calls w7 HA7.out (by simp))
          clear hb7 HSM HA6 HW6 ED HSO HHE
          go_wp2_with fail
          refine HLE.out.mono ?_
          rintro e w8 ⟨rfl, hb8⟩
          go_wp2
          go_ret
          exact ⟨rfl, HW7.out.trans (hb8.mono HW7.out.size)⟩
theorem walk {H : Type} {enc : TypeId × Value → H} {W : World} {base : Nat} {v0 v1 : Value} {d0 d1 : DataW H} {p0 p1 : List MemPlace} (g0 : Arg enc Try.prog W base 3 v0 d0 p0) (g1 : Arg enc Try.prog W base 42 v1 d1 p1) :
    Calls Try.prog 5 #[v0, v1] W fun e w' => e = .returned (.bool true) ∧ Below W.heap.size W w' := by
  obtain ⟨room, rfl, -, -⟩ := g0.int Try.underlying3
  obtain ⟨A, c, l, rfl, hc, hl, hL⟩ := arg_batches g1
  exact body W hL (Nat.le_refl _) hl
end Go.Proofs.Ytepfggfideianaa.lawBayPlays
