/- The walk of DeltaBack: a row comes back from its bytes, in every way. -/
import Derived.Test.YtpenjandhgcgeaaDelD
import Derived.Test.YtpenjandhgcgeaaOpen
namespace Go.Proofs.Ytpenjandhgcgeaa.lawDeltaBack
open Go.RowKit

theorem dcheck_two {l : List Int} (hn : ¬ 2048 < l.length) (h : dcheck l 0 ≠ 0) : dcheck l 0 = 2 := by
  by_cases ha : l.all inB = true
  · exact absurd (dcheck_ok (by omega) hn ha) h
  · exact dcheck_bad (by omega) hn ha

set_option maxRecDepth 100000 in
set_option maxHeartbeats 1600000 in
theorem body (w : World) {A : Option Addr} {c : Nat} {l : List Int} (h : I64s w w.heap.size A l) (hnc : l.length ≤ c) (hc : c ≤ 140737488351232) :
    Calls Try.prog 7 #[.slice A l.length c] w fun e w' => e = .returned (.bool true) ∧ Below w.heap.size w w' := by
  by_cases hn : 2048 < l.length
  · go_enter Try.func7, Try.ntmps7
    go_wp2_with fail
    refine (lives_calls w).mono ?_
    rintro e w1 ⟨rfl, hbel1⟩
    go_wp2_with fail
    refine (lives_calls w1).mono ?_
    rintro e w2 ⟨rfl, hbel2⟩
    go_wp2
    go_ret
    exact ⟨rfl, hbel1.trans (hbel2.mono hbel1.size)⟩
  · have HE : Hid (∀ (v : Nat) wx, v ≤ 2 → Below w.heap.size w wx → Calls Try.prog 11 #[.slice A l.length c, .int .i64 (v : Int)] wx (RetBE wx (dEncR l (v : Int)))) := Lib.hid fun v wx hv hb => encode_calls wx (c := c) (v : Int) (h.below hb) hb.size (by omega)
    go_enter Try.func7, Try.ntmps7
    go_wp2_with fail
    refine (lives_calls w).mono ?_
    rintro e w1 ⟨rfl, hbel1⟩
    by_cases hd : dcheck l 0 = 0
    · have HE2 : Hid (∀ (v : Nat) wx, v ≤ 2 → Below w.heap.size w wx → Calls Try.prog 11 #[.slice A l.length c, .int .i64 (v : Int)] wx (RetBE wx (denc v l, 0))) := Lib.hid fun v wx hv hb => by
        have := HE.out v wx hv hb
        rwa [dEncR_ok (dcheck_way hd (by omega))] at this
      obtain ⟨_, hl, ha⟩ := dcheck_0 hd
      have HB : Hid (∀ v : Nat, v ≤ 2 → ddec (denc v l) (v : Int) = (l, 0) ∧ (denc v l).length ≤ 20490) := Lib.hid fun v hv => by
        have := ddec_back (way := (v : Int)) (by omega) ha hl
        rw [Int.toNat_natCast] at this
        exact ⟨this, (denc_len ha hl).1⟩
      clear hd HE ha
      go_wp2
      go_loopw [3] (fun i wr => ∃ k : Nat, k ≤ 3 ∧ i = .int .i64 (k : Int) ∧ Below w.heap.size w wr) (fun i _ => 3 - (intOf i).toNat)
      case atStart => exact ⟨0, by omega, rfl, hbel1⟩
      case round =>
        obtain ⟨k, hk, rfl, hbel⟩ := hrel
        by_cases hlt : k ≤ 2
        · have hsz := hbel.size
          obtain ⟨hb1, hb2⟩ := HB.out k hlt
          have Hb1 := Lib.hid hb1
          clear hb1
          go_wp2_with fail
          refine (HE2.out k wr hlt hbel).mono ?_
          rintro e w4 he
          obtain ⟨A4, c4, rfl, hc4, -, hby4, hbel4, -⟩ := he.opened
          clear he
          dsimp only at hby4 hc4 ⊢
          have k4 := hbel.trans (hbel4.mono hsz)
          have hdc := decode_calls w4 (c := c4) (k : Int) hby4 (Nat.le_refl _) hc4 (by omega)
          rw [Hb1.out] at hdc
          have HDC := Lib.hid hdc
          clear hdc Hb1
          generalize denc k l = E at *
          go_wp2_with fail
          refine HDC.out.mono ?_
          rintro e w5 he
          obtain ⟨A5, c5, rfl, hc5, -, hr5, hbel5, -⟩ := he.opened
          clear he
          dsimp only at hr5 ⊢
          have k5 := k4.trans (hbel5.mono k4.size)
          have hs := same04_calls w5 (c1 := c) (c2 := c5) (h.below k5) hr5 (by omega)
          rw [show (l == l) = true by simp] at hs
          have HS := Lib.hid hs
          clear hs
          go_wp2_with fail
          refine HS.out.mono ?_
          rintro e w6 ⟨rfl, hbel6⟩
          go_wp2
          go_roundw
          case rel => exact ⟨k + 1, by omega, by go_num, k5.trans (hbel6.mono k5.size)⟩
          case measure => simp [intOf]; omega
        · go_wp2
          go_ret
          exact ⟨rfl, hbel⟩
    · have hE0 := fun wx hb => HE.out 0 wx (by omega) hb
      have e0 : dEncR l ((0 : Nat) : Int) = ([], 2) := by
        have := dEncR_bad hd
        rw [dcheck_two hn hd] at this
        exact this
      rw [e0] at hE0
      have HE0 := Lib.hid hE0
      clear hE0 e0 hd HE
      go_wp2
      go_loopw [3] (fun i wr => i = .int .i64 ((0 : Nat) : Int) ∧ wr = w1) (fun _ _ => 0)
      case atStart => exact ⟨rfl, rfl⟩
      case round =>
        obtain ⟨rfl, rfl⟩ := hrel
        go_wp2_with fail
        refine (HE0.out wr hbel1).mono ?_
        rintro e w3 he
        obtain ⟨A3, c3, rfl, -, -, -, hbel3, -⟩ := he.opened
        clear he
        dsimp only at ⊢
        have k3 := hbel1.trans (hbel3.mono hbel1.size)
        go_wp2
        go_ret
        exact ⟨rfl, k3⟩

theorem walk {H : Type} {enc : TypeId × Value → H} {W : World} {base : Nat} {v0 : Value} {d0 : DataW H} {p0 : List MemPlace} (g0 : Arg enc Try.prog W base 22 v0 d0 p0) :
    Calls Try.prog 7 #[v0] W fun e w' => e = .returned (.bool true) ∧ Below W.heap.size W w' := by
  obtain ⟨A, n, c, l, rfl, rfl, hn, hm, hr, hb, -⟩ := g0.ints Try.underlying22 Try.underlying2 (by kernel_rfl)
  have e8 : Try.prog.bytesOf 2 = 8 := by kernel_rfl
  rw [e8] at hr
  exact body W hb hn (by omega)
end Go.Proofs.Ytpenjandhgcgeaa.lawDeltaBack
