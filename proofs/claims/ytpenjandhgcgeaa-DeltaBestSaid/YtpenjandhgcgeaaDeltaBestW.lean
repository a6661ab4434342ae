/- The walk of DeltaBest: the way that is told makes no more bytes than any other, and fewer than each lesser one. -/
import Derived.Test.YtpenjandhgcgeaaDelC
import Derived.Test.YtpenjandhgcgeaaOpen
namespace Go.Proofs.Ytpenjandhgcgeaa.lawDeltaBest
open Go.RowKit

theorem best_facts {l : List Int} {b k : Nat} (hb : dbst l 3 = b) (hk : k ≤ 2) : (denc b l).length ≤ (denc k l).length ∧ (k < b → (denc b l).length < (denc k l).length) := by
  subst hb; exact dbst_min l 3 k (by omega)

set_option maxRecDepth 100000 in
set_option maxHeartbeats 1600000 in
theorem body (w : World) {A : Option Addr} {c : Nat} {l : List Int} (h : I64s w w.heap.size A l) (hnc : l.length ≤ c) (hc : c ≤ 140737488351232) :
    Calls Try.prog 5 #[.slice A l.length c] w fun e w' => e = .returned (.bool true) ∧ Below w.heap.size w w' := by
  by_cases hn : 2048 < l.length
  · go_enter Try.func5, Try.ntmps5
    go_wp2_with fail
    refine (lives_calls w).mono ?_
    rintro e w1 ⟨rfl, hbel1⟩
    go_wp2_with fail
    refine (lives_calls w1).mono ?_
    rintro e w2 ⟨rfl, hbel2⟩
    go_wp2
    go_ret
    exact ⟨rfl, hbel1.trans (hbel2.mono hbel1.size)⟩
  · have HE : Hid (∀ (v : Nat) wx, v ≤ 2 → Below w.heap.size w wx → Calls Try.prog 11 #[.slice A l.length c, .int .i64 (v : Int)] wx (RetBE wx (dEncR l (v : Int)))) := Lib.hid fun v wx hv hb => encode_calls wx (c := c) (v : Int) (h.below hb) hb.size (by omega)
    have HB : Hid (∀ wx, Below w.heap.size w wx → Calls Try.prog 17 #[.slice A l.length c] wx fun e w' => e = .returned (.int .i64 ((dbest l : Nat) : Int)) ∧ Below wx.heap.size wx w') := Lib.hid fun wx hb => best_calls wx (c := c) (h.below hb) hb.size (by omega)
    have HBR : Hid (∀ wx, Below w.heap.size w wx → Calls Try.prog 18 #[.slice A l.length c] wx fun e w' => e = .returned (.int .i64 ((dbest l : Nat) : Int)) ∧ Below wx.heap.size wx w') := Lib.hid fun wx hb => bestR_calls wx (c := c) (h.below hb) hb.size (by omega)
    go_enter Try.func5, Try.ntmps5
    go_wp2_with fail
    refine (lives_calls w).mono ?_
    rintro e w1 ⟨rfl, hbel1⟩
    by_cases hd : dcheck l 0 = 0
    · have HE2 : Hid (∀ (v : Nat) wx, v ≤ 2 → Below w.heap.size w wx → Calls Try.prog 11 #[.slice A l.length c, .int .i64 (v : Int)] wx (RetBE wx (denc v l, 0))) := Lib.hid fun v wx hv hb => by
        have := HE.out v wx hv hb
        rwa [dEncR_ok (dcheck_way hd (by omega))] at this
      rw [dbest_ok hd] at HB HBR
      have hb2 : dbst l 3 ≤ 2 := dbst_le l 3
      obtain ⟨b, hb⟩ : ∃ b, dbst l 3 = b := ⟨_, rfl⟩
      rw [hb] at HB HBR hb2
      have HF := fun k => Lib.hid (@best_facts l b k hb)
      clear hb hd HE
      go_wp2_with fail
      refine (HB.out w1 hbel1).mono ?_
      rintro e w2 ⟨rfl, hbel2⟩
      have k2 := hbel1.trans (hbel2.mono hbel1.size)
      go_wp2_with fail
      refine (HE2.out b w2 hb2 k2).mono ?_
      rintro e w3 he
      obtain ⟨A3, c3, rfl, -, -, -, hbel3, -⟩ := he.opened
      clear he
      dsimp only at ⊢
      have k3 := k2.trans (hbel3.mono k2.size)
      go_wp2
      go_loopw [6] (fun i wr => ∃ k : Nat, k ≤ 3 ∧ i = .int .i64 (k : Int) ∧ Below w.heap.size w wr) (fun i _ => 3 - (intOf i).toNat)
      case atStart => exact ⟨0, by omega, rfl, k3⟩
      case round =>
        obtain ⟨k, hk, rfl, hbel⟩ := hrel
        by_cases hlt : k ≤ 2
        · obtain ⟨f1, f2⟩ := (HF k).out hlt
          have hsz := hbel.size
          have f3 : ¬ (denc k l).length < (denc b l).length := by omega
          by_cases hkb : k < b
          · have f4 : (((denc k l).length : Int) == ((denc b l).length : Int)) = false := eqf (by have := f2 hkb; omega)
            clear f2 f1
            go_wp2_with fail
            refine (HE2.out k wr hlt hbel).mono ?_
            rintro e w4 he
            obtain ⟨A4, c4, rfl, -, -, -, hbel4, -⟩ := he.opened
            clear he
            dsimp only at ⊢
            go_wp2
            go_roundw
            case rel => exact ⟨k + 1, by omega, by go_num, hbel.trans (hbel4.mono hsz)⟩
            case measure => simp [intOf]; omega
          · clear f2 f1
            go_wp2_with fail
            refine (HE2.out k wr hlt hbel).mono ?_
            rintro e w4 he
            obtain ⟨A4, c4, rfl, -, -, -, hbel4, -⟩ := he.opened
            clear he
            dsimp only at ⊢
            go_wp2
            go_roundw
            case rel => exact ⟨k + 1, by omega, by go_num, hbel.trans (hbel4.mono hsz)⟩
            case measure => simp [intOf]; omega
        · have hsz := hbel.size
          go_wp2_with fail
          refine (HBR.out wr hbel).mono ?_
          rintro e w5 ⟨rfl, hbel5⟩
          go_wp2
          go_ret
          exact ⟨by simp, hbel.trans (hbel5.mono hsz)⟩
    · rw [dbest_bad hd] at HB
      have hE0 := fun wx hb => HE.out 0 wx (by omega) hb
      have e0 : dEncR l ((0 : Nat) : Int) = ([], dcheck l 0) := dEncR_bad hd
      rw [e0] at hE0
      have HE0 := Lib.hid hE0
      have q := dcheck_err hd
      clear hE0 e0 hd
      generalize dcheck l 0 = d at *
      go_wp2_with fail
      refine (HB.out w1 hbel1).mono ?_
      rintro e w2 ⟨rfl, hbel2⟩
      have k2 := hbel1.trans (hbel2.mono hbel1.size)
      go_wp2_with fail
      refine (HE0.out w2 k2).mono ?_
      rintro e w3 he
      obtain ⟨A3, c3, rfl, -, -, -, hbel3, -⟩ := he.opened
      clear he
      dsimp only at ⊢
      have k3 := k2.trans (hbel3.mono k2.size)
      go_wp2
      go_ret
      exact ⟨rfl, k3⟩

theorem walk {H : Type} {enc : TypeId × Value → H} {W : World} {base : Nat} {v0 : Value} {d0 : DataW H} {p0 : List MemPlace} (g0 : Arg enc Try.prog W base 22 v0 d0 p0) :
    Calls Try.prog 5 #[v0] W fun e w' => e = .returned (.bool true) ∧ Below W.heap.size W w' := by
  obtain ⟨A, n, c, l, rfl, rfl, hn, hm, hr, hb, -⟩ := g0.ints Try.underlying22 Try.underlying2 (by kernel_rfl)
  have e8 : Try.prog.bytesOf 2 = 8 := by kernel_rfl
  rw [e8] at hr
  exact body W hb hn (by omega)
end Go.Proofs.Ytpenjandhgcgeaa.lawDeltaBest
