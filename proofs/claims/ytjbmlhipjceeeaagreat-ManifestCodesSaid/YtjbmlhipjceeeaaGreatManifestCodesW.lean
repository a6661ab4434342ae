/- The walk of ManifestCodes. -/
import Derived.Test.YtjbmlhipjceeeaaGreatProg
import Derived.Test.YtjbmlhipjceeeaaGreatMfEd
import Derived.Test.YtjbmlhipjceeeaaGreatMfI
import Derived.Test.YtjbmlhipjceeeaaGreatMfW
import Derived.Test.YtjbmlhipjceeeaaGreatMfX
import Derived.Test.YtjbmlhipjceeeaaGreatMfTw
import Derived.Test.YtjbmlhipjceeeaaGreatMfZ
import Derived.Test.YtjbmlhipjceeeaaGreatMNu
namespace Go.Proofs.YtjbmlhipjceeeaaGreat.lawManifestCodes
set_option linter.unusedVariables false
set_option linter.unusedSimpArgs false
open Go.RowKit Go.Proofs.YtjbmlhipjceeeaaGreat Go.Proofs.YtjbmlhipjceeeaaGreat.Mf

set_option maxRecDepth 100000 in
set_option maxHeartbeats 6400000 in
theorem body (w : World) {B : Nat} {m : Md} {p : Pl} (h : Man w B m p) (hB : B ≤ w.heap.size) (hm : Sh w) :
    Calls Tryz.prog 4 #[mdV m p] w fun e w' => e = .returned (.bool true) ∧ Below w.heap.size w w' := by
  have HT : Hid (∀ W, Below (w.heap.size + 1) (w.alloc (.cells #[.int .i64 m.gen, .int .i64 m.cut, .int .i64 m.fence, .slice p.AE m.E.length p.cE, .slice p.AM m.M.length p.cM, .slice p.AO m.O.length p.cO] 26)) W → W.cell? ⟨w.heap.size, 0, none⟩ = some (.int .i64 m.gen) ∧ W.cell? ⟨w.heap.size, 1, none⟩ = some (.int .i64 m.cut) ∧ W.cell? ⟨w.heap.size, 2, none⟩ = some (.int .i64 m.fence) ∧ W.cell? ⟨w.heap.size, 3, none⟩ = some (.slice p.AE m.E.length p.cE) ∧ W.cell? ⟨w.heap.size, 4, none⟩ = some (.slice p.AM m.M.length p.cM) ∧ W.cell? ⟨w.heap.size, 5, none⟩ = some (.slice p.AO m.O.length p.cO)) := Lib.hid fun W hW => by
    have h1 := (Blk.new w 26 #[.int .i64 m.gen, .int .i64 m.cut, .int .i64 m.fence, .slice p.AE m.E.length p.cE, .slice p.AM m.M.length p.cM, .slice p.AO m.O.length p.cO]).below hW (by omega)
    exact ⟨h1.cell 0, h1.cell 1, h1.cell 2, h1.cell 3, h1.cell 4, h1.cell 5⟩
  have HB0 : Hid (∀ W, Below (w.heap.size + 1) (w.alloc (.cells #[.int .i64 m.gen, .int .i64 m.cut, .int .i64 m.fence, .slice p.AE m.E.length p.cE, .slice p.AM m.M.length p.cM, .slice p.AO m.O.length p.cO] 26)) W → Below w.heap.size w W ∧ w.heap.size + 1 ≤ W.heap.size) := Lib.hid fun W hW => ⟨((Below.refl w.heap.size w).alloc (Nat.le_refl _) _).trans (hW.mono (by omega)), by have := hW.size; simp at this; omega⟩
  have HLv := Lib.hid fun W (hW : Below w.heap.size w W) => lives_calls W (hm.below hW hm.lt)
  have HFw := Lib.hid fun W (hW : Below w.heap.size w W) => few_calls W (h.below (hW.mono hB)) (by have := hW.size; omega)
  have HMn := Lib.hid fun W (hW : Below w.heap.size w W) => h.below (hW.mono hB)
  have HSh := Lib.hid fun W (hW : Below w.heap.size w W) => hm.below hW hm.lt
  have HBw := Lib.hid hB
  have HOk := Lib.hid h.ok
  clear h hm hB
  obtain ⟨AE, cE, AM, cM, AO, cO⟩ := p
  dsimp only at *
  have HW1 := Lib.hid (Below.refl (w.heap.size + 1) (w.alloc (.cells #[.int .i64 m.gen, .int .i64 m.cut, .int .i64 m.fence, .slice AE m.E.length cE, .slice AM m.M.length cM, .slice AO m.O.length cO] 26)))
  go_enter Tryz.func4, Tryz.ntmps4
  go_wp2_with fail
  generalize w.alloc (.cells #[.int .i64 m.gen, .int .i64 m.cut, .int .i64 m.fence, .slice AE m.E.length cE, .slice AM m.M.length cM, .slice AO m.O.length cO] 26) = wm at *
  have hb0 := HB0.out _ HW1.out
  refine (HLv.out _ hb0.1).mono ?_
  rintro e w1 ⟨rfl, hb1⟩
  have HW2 : Hid (Below (w.heap.size + 1) wm w1) := Lib.hid (hb1.mono hb0.2)
  have hb2 := HB0.out _ HW2.out
  obtain ⟨s0, s1, s2, s3, s4, s5⟩ := HT.out _ HW2.out
  have HX := HFw.out _ hb2.1
  clear hb1 HW1 hb0
  cases hf : fewB m
  · rw [hf] at HX
    have HX2 := Lib.hid HX
    clear HX hf
    go_wp2_with (go_at_call 9; refine HX2.out.mono ?_; rintro e w3 ⟨rfl, hb3⟩)
    have hb4 := hb2.1.trans (hb3.mono hb2.1.size)
    refine (HLv.out _ hb4).mono ?_
    rintro e w5 ⟨rfl, hb5⟩
    go_wp2
    go_ret
    exact ⟨rfl, hb4.trans (hb5.mono hb4.size)⟩
  rw [hf] at HX
  have HX2 := Lib.hid HX
  have HS : Hid (Short m.E) := Lib.hid fun x hx => by have := (few_f hf).2.2.2 x hx; omega
  have HLen := Lib.hid (few_f hf)
  clear HX hf HFw HLv
  go_wp2_with first | (go_at_call 9; refine HX2.out.mono ?_; rintro e w3 ⟨rfl, hb3⟩; have HW3 : Hid (Below (w.heap.size + 1) wm w3) := Lib.hid (HW2.out.trans (hb3.mono hb2.2)); have hb4 := HB0.out _ HW3.out; obtain ⟨l0, l1, l2, l3, l4, l5⟩ := HT.out _ HW3.out; have hTw := twin_calls w3 (HMn.out _ hb4.1) (Nat.le_trans HBw.out hb4.1.size) ⟨by have := HLen.out.1; omega, by have := HLen.out.2.1; omega, by have := HLen.out.2.2.1; omega⟩)
  have HTw := Lib.hid hTw
  clear hTw l0 l1 l2 l3 l4 l5 s0 s1 s2 s3 s4 s5 hb3 HX2 HW2 hb2
  refine HTw.out.mono ?_
  rintro e w4 ⟨pz, rfl, hmo, hb5⟩
  obtain ⟨ZE, zE, ZM, zM, ZO, zO⟩ := pz
  have hs4 := hb5.size
  have hmO := hmo.man (by have := HLen.out.1; omega) (by have := HLen.out.2.1; omega) (by have := HLen.out.2.2.1; omega) HOk.out
  have HMO := Lib.hid fun W (hW : Below w4.heap.size w4 W) => hmO.below hW
  have HW4 : Hid (Below (w.heap.size + 1) wm w4) := Lib.hid (HW3.out.trans (hb5.mono hb4.2))
  have HBo := Lib.hid (Blk.new w4 26 #[.int .i64 m.gen, .int .i64 m.cut, .int .i64 m.fence, .slice ZE m.E.length zE, .slice ZM m.M.length zM, .slice ZO m.O.length zO])
  have HA4 := Lib.hid ((Below.refl w4.heap.size w4).alloc (Nat.le_refl _) (.cells #[.int .i64 m.gen, .int .i64 m.cut, .int .i64 m.fence, .slice ZE m.E.length zE, .slice ZM m.M.length zM, .slice ZO m.O.length zO] 26))
  have hg4 : w.heap.size + 1 ≤ w4.heap.size := by omega
  clear hmo hb5 hmO HTw hb4 HW3 HLen
  go_wp2_with fail
  have hs5 : (w4.alloc (.cells #[.int .i64 m.gen, .int .i64 m.cut, .int .i64 m.fence, .slice ZE m.E.length zE, .slice ZM m.M.length zM, .slice ZO m.O.length zO] 26)).heap.size = w4.heap.size + 1 := by simp
  generalize w4.alloc (.cells #[.int .i64 m.gen, .int .i64 m.cut, .int .i64 m.fence, .slice ZE m.E.length zE, .slice ZM m.M.length zM, .slice ZO m.O.length zO] 26) = w5 at *
  have hW5 : Below (w.heap.size + 1) wm w5 := HW4.out.trans (HA4.out.mono hg4)
  refine (enc_calls w5 ((HMO.out _ HA4.out)) (by omega) HS.out (HSh.out _ (HB0.out _ hW5).1)).mono ?_
  rintro e w6 ⟨Ab, cb, rfl, hown6, hb6⟩
  have HBy := Lib.hid fun W (hW : Below w6.heap.size w6 W) => (own_bytes hown6).below hW
  have hs6 := hb6.size
  have HA6 : Hid (Below w4.heap.size w4 w6) := Lib.hid (HA4.out.trans (hb6.mono (by omega)))
  have HW6 : Hid (Below (w.heap.size + 1) wm w6) := Lib.hid (HW4.out.trans (HA6.out.mono hg4))
  have HBo6 := Lib.hid (HBo.out.below hb6 (by omega))
  have HD : Hid ((rightB m = true → encD m = encB m ∧ encEr m = 0) ∧ (rightB m = false → encD m = [] ∧ encEr m = 4)) := Lib.hid ⟨fun hh => ⟨by unfold encD; rw [if_pos hh], by unfold encEr; rw [if_pos hh]⟩, fun hh => ⟨by unfold encD; rw [hh]; rfl, by unfold encEr; rw [hh]; rfl⟩⟩
  generalize encD m = D at *
  generalize encEr m = er at *
  obtain ⟨l0, l1, l2, l3, l4, l5⟩ := HT.out _ HW6.out
  clear hown6 hb6 HBo HA4 hW5
  go_wp2_with fail
  have hb60 := HB0.out _ HW6.out
  refine (rightR_calls w6 (HMn.out _ hb60.1) (Nat.le_trans HBw.out hb60.1.size) HS.out).mono ?_
  rintro e w7 ⟨rfl, hb7⟩
  have HA7 : Hid (Below w4.heap.size w4 w7) := Lib.hid (HA6.out.trans (hb7.mono (by omega)))
  have HY7 : Hid (Below w6.heap.size w6 w7) := Lib.hid hb7
  have HBo7 := Lib.hid (HBo6.out.below hb7 (by omega))
  have hs7 := hb7.size
  have HW7 : Hid (Below (w.heap.size + 1) wm w7) := Lib.hid (HW4.out.trans (HA7.out.mono hg4))
  obtain ⟨o0, o1, o2, o3, o4, o5⟩ : w7.cell? ⟨w4.heap.size, 0, none⟩ = some (.int .i64 m.gen) ∧ w7.cell? ⟨w4.heap.size, 1, none⟩ = some (.int .i64 m.cut) ∧ w7.cell? ⟨w4.heap.size, 2, none⟩ = some (.int .i64 m.fence) ∧ w7.cell? ⟨w4.heap.size, 3, none⟩ = some (.slice ZE m.E.length zE) ∧ w7.cell? ⟨w4.heap.size, 4, none⟩ = some (.slice ZM m.M.length zM) ∧ w7.cell? ⟨w4.heap.size, 5, none⟩ = some (.slice ZO m.O.length zO) := ⟨HBo7.out.cell 0, HBo7.out.cell 1, HBo7.out.cell 2, HBo7.out.cell 3, HBo7.out.cell 4, HBo7.out.cell 5⟩
  clear l0 l1 l2 l3 l4 l5 hb60 hb7 HA6 HBo6 HW6
  go_wp2_with fail
  have hb70 := HB0.out _ HW7.out
  refine (right_calls w7 (HMO.out _ HA7.out) (by omega) HS.out (HSh.out _ hb70.1)).mono ?_
  rintro e w8 ⟨rfl, hb8⟩
  have HA8 : Hid (Below w4.heap.size w4 w8) := Lib.hid (HA7.out.trans (hb8.mono (by omega)))
  have HY8 : Hid (Below w6.heap.size w6 w8) := Lib.hid (HY7.out.trans (hb8.mono (by omega)))
  have HBo8 := Lib.hid (HBo7.out.below hb8 (by omega))
  have hs8 := hb8.size
  have HW8 : Hid (Below (w.heap.size + 1) wm w8) := Lib.hid (HW4.out.trans (HA8.out.mono hg4))
  obtain ⟨r0, r1, r2, r3, r4, r5⟩ : w8.cell? ⟨w4.heap.size, 0, none⟩ = some (.int .i64 m.gen) ∧ w8.cell? ⟨w4.heap.size, 1, none⟩ = some (.int .i64 m.cut) ∧ w8.cell? ⟨w4.heap.size, 2, none⟩ = some (.int .i64 m.fence) ∧ w8.cell? ⟨w4.heap.size, 3, none⟩ = some (.slice ZE m.E.length zE) ∧ w8.cell? ⟨w4.heap.size, 4, none⟩ = some (.slice ZM m.M.length zM) ∧ w8.cell? ⟨w4.heap.size, 5, none⟩ = some (.slice ZO m.O.length zO) := ⟨HBo8.out.cell 0, HBo8.out.cell 1, HBo8.out.cell 2, HBo8.out.cell 3, HBo8.out.cell 4, HBo8.out.cell 5⟩
  obtain ⟨l0, l1, l2, l3, l4, l5⟩ := HT.out _ HW8.out
  have hb80 := HB0.out _ HW8.out
  have HSm := Lib.hid (sameM_calls w8 (HMO.out _ HA8.out) (HMn.out _ hb80.1) (by omega) (Nat.le_trans HBw.out hb80.1.size))
  have HEQ := Lib.hid (same_self m)
  clear o0 o1 o2 o3 o4 o5 hb70 hb8 HA7 HY7 HBo7 HW7
  cases hr : rightB m
  · obtain ⟨hD, he⟩ := HD.out.2 hr
    subst hD he
    have n0 : ((false : Bool) != false) = false := rfl
    clear HD hr hb80
    go_wp2_with fail
    refine HSm.out.mono ?_
    rintro e w9 ⟨rfl, hb9⟩
    rw [HEQ.out]
    have HBf := Lib.hid ((HB0.out _ HW8.out).1.trans (hb9.mono (HB0.out _ HW8.out).1.size))
    clear hb9 r0 r1 r2 r3 r4 r5 l0 l1 l2 l3 l4 l5 HSm
    go_wp2
    go_ret
    exact ⟨rfl, HBf.out⟩
  · obtain ⟨hD, he⟩ := HD.out.1 hr
    subst he
    have HIn := Lib.hid (right_in hr HOk.out)
    have HDe := Lib.hid hD
    clear HD hr hb80 hD
    go_wp2_with fail
    refine HSm.out.mono ?_
    rintro e w9 ⟨rfl, hb9⟩
    rw [HEQ.out]
    have HY9 : Hid (Below w6.heap.size w6 w9) := Lib.hid (HY8.out.trans (hb9.mono (by omega)))
    have HW9 : Hid (Below (w.heap.size + 1) wm w9) := Lib.hid (HW8.out.trans (hb9.mono (HB0.out _ HW8.out).2))
    clear hb9 r0 r1 r2 r3 r4 r5 l0 l1 l2 l3 l4 l5 HSm HW8 HY8 HA8
    obtain ⟨l0, l1, l2, l3, l4, l5⟩ := HT.out _ HW9.out
    have hb90 := HB0.out _ HW9.out
    have HEn := Lib.hid (encR_calls w9 (HMn.out _ hb90.1) (Nat.le_trans HBw.out hb90.1.size) HIn.out)
    have HB9 := Lib.hid hb90.1
    clear hb90
    go_wp2_with fail
    refine HEn.out.mono ?_
    rintro e w10 he
    obtain ⟨A2, c2, rfl, hc2, hm2, hby2, hb10, -⟩ := he.opened
    have HBf := Lib.hid (HB9.out.trans (hb10.mono HB9.out.size))
    have HFin := Lib.hid (Nu.same_calls w10 (c1 := cb) (c2 := c2) (HBy.out _ (HY9.out.trans (hb10.mono HY9.out.size))) hby2)
    have HLL : Hid ((D == encB m) = true) := Lib.hid (by rw [HDe.out]; exact beq_self_eq_true _)
    clear he hby2 hb10 HEn l0 l1 l2 l3 l4 l5
    generalize encB m = E2 at *
    go_wp2_with fail
    refine HFin.out.mono ?_
    rintro e w11 ⟨rfl, rfl⟩
    rw [HLL.out]
    clear HFin
    go_wp2
    go_ret
    exact ⟨rfl, HBf.out⟩
theorem walk {H : Type} {enc : TypeId × Value → H} {W : World} {base : Nat} {v0 : Value} {d0 : DataW H} {p0 : List MemPlace} (hsh : W.ShapedOpen Tryz.prog) (g0 : Arg enc Tryz.prog W base 26 v0 d0 p0) :
    Calls Tryz.prog 4 #[v0] W fun e w' => e = .returned (.bool true) ∧ Below W.heap.size W w' := by
  obtain ⟨m, p, rfl, hm⟩ := arg_man g0
  exact body W hm (Nat.le_refl _) (var0 hsh)
end Go.Proofs.YtjbmlhipjceeeaaGreat.lawManifestCodes
