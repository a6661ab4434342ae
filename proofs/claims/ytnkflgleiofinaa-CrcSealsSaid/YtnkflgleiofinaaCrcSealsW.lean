/- The walk of CrcSeals: a text is sealed, and opened, as the document says. -/
import Derived.Test.YtnkflgleiofinaaCrcD
import Derived.Test.YtnkflgleiofinaaOpen
namespace Go.Proofs.Ytnkflgleiofinaa.lawCrcSeals
open Go.RowKit

theorem cseal_len (l : List UInt8) : (cseal l).length = l.length + 4 := by simp [cseal, four]
theorem copen_len (l : List UInt8) : (copen l).1.length ≤ l.length := by
  unfold copen
  split
  · simp
  · split
    · simp only [List.length_take]; omega
    · simp
theorem own_apart {w3 w w' : World} {b1 n m : Nat} {e : TypeId} {v u : Value} {xs ys : List Value} (hs : w3.ownsRow b1 e 1 v n xs) (hx : w.ownsRow w3.heap.size e 1 u m ys) (hg : w.grownBy w' v.ownBlock) : w'.ownsRow w3.heap.size e 1 u m ys := by
  refine hx.kept hg ?_
  rcases hu : u.ownBlock with _ | k
  · exact .inl rfl
  · right
    intro e'
    have h1 := (hs.lt k e'.symm).2
    have h2 := (hx.lt k hu).1
    omega

set_option maxRecDepth 100000 in
set_option maxHeartbeats 2000000 in
theorem body (w : World) {B n c : Nat} {A : Option Addr} {l : List UInt8} (h : Bytes w B A n l) (hB : B ≤ w.heap.size) (hnc : n ≤ c) (hc : c ≤ 140737488351232) :
    Calls Try.prog 4 #[.slice A n c] w fun e w' => e = .returned (.bool true) ∧ Below w.heap.size w w' := by
  have hl := h.len
  subst hl
  by_cases hn : 4096 < l.length
  · go_enter Try.func4, Try.ntmps4
    go_wp2_with fail
    refine (lives_calls w).mono ?_
    rintro e w1 ⟨rfl, hbel1⟩
    go_wp2_with fail
    refine (lives_calls w1).mono ?_
    rintro e w2 ⟨rfl, hbel2⟩
    go_wp2
    go_ret
    exact ⟨rfl, hbel1.trans (hbel2.mono hbel1.size)⟩
  · go_enter Try.func4, Try.ntmps4
    have Hsl := Lib.hid (cseal_len l)
    have hol := copen_len l
    go_wp2_with fail
    refine (lives_calls w).mono ?_
    rintro e w1 ⟨rfl, hbel1⟩
    have h1 := h.below (hbel1.mono hB)
    have s1 := hbel1.size
    go_wp2_with fail
    refine (twin_calls w1 h1 (by omega) (by omega)).mono ?_
    rintro e w2 he
    obtain ⟨A2, c2, rfl, hc2, hm2, hb2, hbel2, -⟩ := he.opened
    clear he
    have s2 := hbel2.size
    have h2 := h1.below (hbel2.mono (by omega))
    go_wp2_with fail
    refine (seal_calls w2 hb2 (Nat.le_refl _) hc2 (by omega) (by omega)).mono ?_
    rintro e w3 he
    obtain ⟨A3, c3, rfl, hc3, hm3, hb3, hbel3, hown3⟩ := he.opened
    clear he
    have s3 := hbel3.size
    have h3 := h2.below (hbel3.mono (by omega))
    have hb23 := hb2.below hbel3
    go_wp2_with fail
    refine (open_calls w3 hb23 (by omega) hc2 (by omega)).mono ?_
    rintro e w4 he
    obtain ⟨A4, c4, rfl, hc4, hm4, hb4, hbel4, hown4⟩ := he.opened
    clear he
    have s4 := hbel4.size
    have h4 := h3.below (hbel4.mono (by omega))
    have hb34 := hb3.below hbel4
    have hown34 := own_below hown3 hbel4
    have hb24 := hb23.below (hbel4.mono (by omega))
    go_wp2_with fail
    refine (openR_calls w4 h4 (by omega) hnc (by omega)).mono ?_
    rintro e w5 he
    obtain ⟨A5, c5, rfl, hc5, hm5, hb5, hbel5, -⟩ := he.opened
    clear he
    have s5 := hbel5.size
    have h5 := h4.below (hbel5.mono (by omega))
    have hb35 := hb34.below (hbel5.mono (by omega))
    have hown35 := own_below hown34 hbel5
    have hb45 := hb4.below hbel5
    have hown45 := own_below hown4 hbel5
    have hb25 := hb24.below (hbel5.mono (by omega))
    go_wp2_with fail
    refine (sealR_calls w5 h5 (by omega) (by omega)).mono ?_
    rintro e w6 he
    obtain ⟨A6, c6, rfl, hc6, hm6, hb6, hbel6, -⟩ := he.opened
    clear he
    have s6 := hbel6.size
    have h6 := h5.below (hbel6.mono (by omega))
    have hb36 := hb35.below (hbel6.mono (by omega))
    have hown36 := own_below hown35 hbel6
    have hb46 := hb45.below (hbel6.mono (by omega))
    have hown46 := own_below hown45 hbel6
    have hb56 := hb5.below hbel6
    have hb26 := hb25.below (hbel6.mono (by omega))
    have hbelA : Below w2.heap.size w2 w6 := hbel3.trans ((hbel4.mono (by omega)).trans ((hbel5.mono (by omega)).trans (hbel6.mono (by omega))))
    have hbelB : Below w.heap.size w w2 := hbel1.trans (hbel2.mono (by omega))
    clear hown45 hown35 hown34 hown4 hb34 hb35 hb45 hb5 hb4 hb3 hb23 hb24 hb25
    have t1 := same_calls (c1 := c3) (c2 := c6) w6 hb36 hb6
    rw [show (cseal l == cseal l) = true from beq_self_eq_true _] at t1
    have T1 := Lib.hid t1
    have t2 := same_calls (c1 := c4) (c2 := c5) w6 hb46 hb56
    rw [show ((copen l).1 == (copen l).1) = true from beq_self_eq_true _] at t2
    have T2 := Lib.hid t2
    clear t1 t2
    generalize copen l = r at *
    have q : ((r.2 : Int) != (r.2 : Int)) = false := nef rfl
    go_wp2_with fail
    refine T1.out.mono ?_
    rintro e w' ⟨rfl, rfl⟩
    go_wp2_with fail
    refine T2.out.mono ?_
    rintro e w' ⟨rfl, rfl⟩
    have k1 : (cseal l).length + 1 ≤ maxLen := by rw [Hsl.out]; unfold maxLen; omega
    have k2 : ((cseal l).length + 1) * 1 ≤ 140737488355328 := by rw [Hsl.out]; omega
    go_wp2_with (at_builtin; go_must (refine wpList_push _ rfl (.tmp 47) (.tmp 48) _ rfl w2.heap.size 5 _ 1 Try.underlying24 Try.infoU8 rfl _ _ _ _ _ rfl rfl hown36 rfl k1 k2 hbelA.size ?_))
    intro v7 w7 _ hbel7 hg7 _
    have hown47 := own_apart hown3 (hown46.alloc _) hg7
    have s7 := hbel7.size
    have hbelC : Below w2.heap.size w2 w7 := hbelA.trans hbel7
    have hown47' := own_base hown47 s3
    go_wp2_with (at_builtin; go_must (refine wpList_push _ rfl (.tmp 50) (.tmp 51) _ rfl w2.heap.size 5 _ 1 Try.underlying24 Try.infoU8 rfl _ _ _ _ _ rfl rfl hown47' rfl (by unfold maxLen; omega) (by omega) hbelC.size ?_))
    intro v8 w8 _ hbel8 _ _
    have hbelD : Below w2.heap.size w2 w8 := hbelC.trans hbel8
    have hb28 := hb2.below hbelD
    have h8 := h2.below (hbelD.mono (by omega))
    have t3 := same_calls (c1 := c2) (c2 := c) w8 hb28 h8
    rw [show (l == l) = true from beq_self_eq_true _] at t3
    have T3 := Lib.hid t3
    clear t3
    have hfin : Below w.heap.size w w8 := hbelB.trans (hbelD.mono (by omega))
    go_wp2_with fail
    refine T3.out.mono ?_
    rintro e w' ⟨rfl, rfl⟩
    go_wp2
    go_ret
    exact ⟨rfl, hfin⟩

theorem walk {H : Type} {enc : TypeId × Value → H} {W : World} {base : Nat} {v0 : Value} {d0 : DataW H} {p0 : List MemPlace} (g0 : Arg enc Try.prog W base 24 v0 d0 p0) :
    Calls Try.prog 4 #[v0] W fun e w' => e = .returned (.bool true) ∧ Below W.heap.size W w' := by
  obtain ⟨A, n, c, l, rfl, hn, hc, hb⟩ := g0.bytes Try.underlying24 Try.underlying5 (by kernel_rfl) (by kernel_rfl)
  exact body W hb (Nat.le_refl _) hn hc
end Go.Proofs.Ytnkflgleiofinaa.lawCrcSeals
