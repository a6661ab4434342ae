/- The walk of NumsBack: a number comes back from its bytes, whatever stands behind them; what is read is written so again. -/
import Derived.Test.YtmbnbeihgggkcaaNumV
import Derived.Test.YtmbnbeihgggkcaaNumQ
import Derived.Test.YtmbnbeihgggkcaaOpen
namespace Go.Proofs.Ytmbnbeihgggkcaa.lawNumsBack
open Go.RowKit

theorem readU_putU {n : Nat} (hn : n ≤ 18446744073709551615) (rest : List UInt8) : readU (putU n ++ rest) 0 = (n, (putU n).length, 0) := by
  have := putU_pos n
  unfold readU
  rw [if_neg (by simp; omega)]
  simpa using readAt_putU hn rest

theorem readU_back (l : List UInt8) : (readU l 0).2.2 = 0 → (readU l 0).2.1 ≤ l.length ∧ putU (readU l 0).1 = l.take (readU l 0).2.1 := by
  unfold readU
  split
  · simp
  · intro h
    have := putU_readAt h
    simpa [and_comm] using this
theorem app {l m : List UInt8} : l.map byteV ++ m.map byteV = (l ++ m).map byteV := by rw [List.map_append]

set_option maxRecDepth 100000 in
set_option maxHeartbeats 1000000 in
theorem body (n : Nat) (m : Int) (w : World) {A : Option Addr} {c : Nat} {l : List UInt8} (hn : n ≤ 18446744073709551615) (h1 : -9223372036854775808 ≤ m) (h2 : m ≤ 9223372036854775807) (hb : Bytes w w.heap.size A l.length l) (hc : l.length ≤ c) :
    Calls Try.prog 7 #[.int .u64 (n : Int), .int .i64 m, .slice A l.length c] w fun e w' => e = .returned (.bool true) ∧ Below w.heap.size w w' := by
  have l1 := putU_len10 hn
  have hz := zig_lt h1 h2
  have l2 := putU_len10 hz
  have l3 := putU_pos n
  have l4 := putU_pos (zigN m)
  have d1 : (((putU n).length : Int) == 0) = false := eqf (by omega)
  have d2 : (((putU (zigN m)).length : Int) == 0) = false := eqf (by omega)
  have Hr := fun rest => Lib.hid (readU_putU hn rest)
  have Hr2 := fun rest => Lib.hid (readU_putU hz rest)
  have Hzz := Lib.hid (zag_zig m)
  go_enter Try.func7, Try.ntmps7
  go_wp2_with fail
  refine (putU_calls n _ l1).mono ?_
  rintro e w1 h
  obtain ⟨A1, c1, rfl, hc1, hm1, hb1, hbel1, -⟩ := h.opened
  clear h
  go_wp2_with fail
  refine (putI_calls m _ h1 h2 l2).mono ?_
  rintro e w2 h
  obtain ⟨A2, c2, rfl, hc2, hm2, hb2, hbel2, -⟩ := h.opened
  clear h
  by_cases hlong : 4096 < l.length
  · go_wp2
    go_ret
    exact ⟨ret_bool (decide_eq_true (by omega)), hbel1.trans (hbel2.mono hbel1.size)⟩
  · have s1 := hbel1.size
    have s2 := hbel2.size
    go_wp2_with fail
    refine (twin_calls _ (hb1.to hbel2 s2) (Nat.le_refl _) (by omega)).mono ?_
    rintro e w3 h
    obtain ⟨A3, c3, rfl, hc3, hm3, hb3, hbel3, hown3⟩ := h.opened
    clear h
    have s3 := hbel3.size
    have b13 : Below w.heap.size w w3 := (hbel1.trans (hbel2.mono s1)).trans (hbel3.mono (by omega))
    have hb' := hb.to b13 (Nat.le_refl _)
    go_wp2_with (at_builtin; go_must (refine wpList_append_sl _ rfl (.tmp 45) (.tmp 46) _ rfl w2.heap.size 5 _ 1 1 Try.underlying23 Try.infoU8 rfl (by omega) _ _ _ rfl hown3 w.heap.size A l.length c (l.map byteV) rfl hb'.2 (byteV_one l) (by unfold maxLen; omega) (by omega) s3 ?_))
    intro A4 c4 w4 hc4 hm4 hr4 hbel4 _ _ _
    rw [app] at hr4
    have hb4 : Bytes w4 w4.heap.size A4 ((putU n).length + l.length) (putU n ++ l) := .of hr4
    clear hr4
    go_wp2_with fail
    refine (u_calls w4 hb4 0 hc4 (by omega)).mono ?_
    rintro e w' ⟨rfl, rfl⟩
    rw [(Hr l).out]
    have s4 := hbel4.size
    have b24 : Below w2.heap.size w2 w4 := hbel3.trans hbel4
    go_wp2_with fail
    refine (twin_calls _ (hb2.to b24 b24.size) (Nat.le_refl _) (by omega)).mono ?_
    rintro e w5 h
    obtain ⟨A5, c5, rfl, hc5, hm5, hb5, hbel5, hown5⟩ := h.opened
    clear h
    have s5 := hbel5.size
    have b15 : Below w.heap.size w w5 := ((hbel1.trans (hbel2.mono s1)).trans (b24.mono (by omega))).trans (hbel5.mono (by omega))
    have hb'' := hb.to b15 (Nat.le_refl _)
    go_wp2_with (at_builtin; go_must (refine wpList_append_sl _ rfl (.tmp 54) (.tmp 55) _ rfl w4.heap.size 5 _ 1 1 Try.underlying23 Try.infoU8 rfl (by omega) _ _ _ rfl hown5 w.heap.size A l.length c (l.map byteV) rfl hb''.2 (byteV_one l) (by unfold maxLen; omega) (by omega) s5 ?_))
    intro A6 c6 w6 hc6 hm6 hr6 hbel6 _ _ _
    rw [app] at hr6
    have hb6 : Bytes w6 w6.heap.size A6 ((putU (zigN m)).length + l.length) (putU (zigN m) ++ l) := .of hr6
    clear hr6
    go_wp2_with fail
    refine (i_calls w6 hb6 0 hc6 (by omega)).mono ?_
    rintro e w' ⟨rfl, rfl⟩
    rw [(Hr2 l).out, if_pos rfl, Hzz.out]
    go_wp2_with fail
    refine (zig_calls m _ h1 h2).mono ?_
    rintro e w' ⟨rfl, rfl⟩
    go_wp2_with fail
    refine (zag_calls (zigN m) _ hz).mono ?_
    rintro e w' ⟨rfl, rfl⟩
    rw [Hzz.out]
    go_wp2_with fail
    have s6 := hbel6.size
    have b16 : Below w.heap.size w w6 := b15.trans (hbel6.mono (by omega))
    have hb7 := hb.to b16 (Nat.le_refl _)
    refine (u_calls w6 hb7 0 hc (by omega)).mono ?_
    rintro e w' ⟨rfl, rfl⟩
    have hmax := (readU_max l 0).1
    have hok := readU_back l
    generalize readU l 0 = r at *
    obtain ⟨x, j, g⟩ := r
    simp only at hmax hok
    by_cases hg : g = 0
    · subst hg
      obtain ⟨hj, hp⟩ := hok rfl
      have lx := putU_len10 hmax
      have Hp := Lib.hid hp
      clear hok hp hmax
      have hbt := hb7.taken hj
      have hj1 : ((j : Int) ≤ (l.length : Int)) := by omega
      have hj2 : ((j : Int) ≤ (c : Int)) := by omega
      have hj3 : ((0 : Int) ≤ (j : Int)) := by omega
      go_wp2_with fail
      go_region_held3 (fun _ => True) (exact trivial) (first | (go_at_call 11; refine (putU_calls x _ lx).mono ?_; rintro e w7 h7; obtain ⟨A7, c7, rfl, hc7, hm7, hb8, hbel7, -⟩ := h7.opened; clear h7; have hb9 := hbt.drew.to (hbel7.mono b16.size) (Nat.le_refl _); have b17 := (below_drewN b16 1).trans (hbel7.mono b16.size)) | (go_at_call 12; refine (same_calls _ hb8 hb9).mono ?_; rintro e w8 ⟨rfl, rfl⟩))
      go_wp2
      go_ret
      exact ⟨ret_bool (beq_iff_eq.2 Hp.out), b17⟩
    · have q : ((g : Int) != 0) = true := net (by omega)
      clear hok hg
      go_wp2_with fail
      go_quiet (fail)
      go_wp2
      go_ret
      exact ⟨rfl, below_drewN b16 _⟩

theorem walk {H : Type} {enc : TypeId × Value → H} {W : World} {base : Nat} {v0 v1 v2 : Value} {d0 d1 d2 : DataW H} {p0 p1 p2 : List MemPlace} (g0 : Arg enc Try.prog W base 22 v0 d0 p0) (g1 : Arg enc Try.prog W base 2 v1 d1 p1) (g2 : Arg enc Try.prog W base 23 v2 d2 p2) :
    Calls Try.prog 7 #[v0, v1, v2] W fun e w' => e = .returned (.bool true) ∧ Below W.heap.size W w' := by
  obtain ⟨x, rfl, -, hx⟩ := g0.int Try.underlying22
  obtain ⟨y, rfl, -, hy⟩ := g1.int Try.underlying2
  obtain ⟨A, n, c, l, rfl, hn, hc, hb⟩ := g2.bytes Try.underlying23 Try.underlying5 (by kernel_rfl) (by kernel_rfl)
  obtain ⟨k, rfl, hk⟩ := wf_u64 hx
  have hl := hb.1
  subst hl
  exact body k y W hk (wf_i64 hy).1 (wf_i64 hy).2 hb hn
end Go.Proofs.Ytmbnbeihgggkcaa.lawNumsBack
