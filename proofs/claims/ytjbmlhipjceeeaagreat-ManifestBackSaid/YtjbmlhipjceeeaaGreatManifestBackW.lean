/- The walk of ManifestBack. -/
import Derived.Test.YtjbmlhipjceeeaaGreatProg
import Derived.Test.YtjbmlhipjceeeaaGreatMfEd
import Derived.Test.YtjbmlhipjceeeaaGreatMfDc
import Derived.Test.YtjbmlhipjceeeaaGreatMfW
import Derived.Test.YtjbmlhipjceeeaaGreatMfX
import Derived.Test.YtjbmlhipjceeeaaGreatMfZ
import Derived.Test.YtjbmlhipjceeeaaGreatMNu
import Derived.Test.YtjbmlhipjceeeaaGreatTail
namespace Go.Proofs.YtjbmlhipjceeeaaGreat.lawManifestBack
set_option linter.unusedVariables false
set_option linter.unusedSimpArgs false
open Go.RowKit Go.Proofs.YtjbmlhipjceeeaaGreat Go.Proofs.YtjbmlhipjceeeaaGreat.Mf

theorem same_same {m o : Md} (hm : m.In) (hr : rightB m = true) (ho : o.In) (hro : rightB o = true) : (encB m == encB o) = sameM m o := by
  by_cases h : m = o
  · subst h
    rw [same_self]; exact beq_self_eq_true _
  · have h1 : (encB m == encB o) = false := beq_eq_false_iff_ne.2 fun e => h (encB_inj hm hr ho hro e)
    rw [h1]
    exact (dcf h).symm
def wm2m (w : World) (m : Md) (p : Pl) (o : Md) (q : Pl) : World := (w.alloc (.cells #[.int .i64 m.gen, .int .i64 m.cut, .int .i64 m.fence, .slice p.AE m.E.length p.cE, .slice p.AM m.M.length p.cM, .slice p.AO m.O.length p.cO] 26)).alloc (.cells #[.int .i64 o.gen, .int .i64 o.cut, .int .i64 o.fence, .slice q.AE o.E.length q.cE, .slice q.AM o.M.length q.cM, .slice q.AO o.O.length q.cO] 26)
set_option maxRecDepth 100000 in
set_option maxHeartbeats 6400000 in
theorem body (w : World) {B : Nat} {m : Md} {p : Pl} {o : Md} {q : Pl} (h : Man w B m p) (ho : Man w B o q) (hB : B ≤ w.heap.size) (hm : Sh w) :
    Calls Tryz.prog 6 #[mdV m p, mdV o q] w fun e w' => e = .returned (.bool true) ∧ Below w.heap.size w w' := by
  have HT : Hid (∀ W, Below (w.heap.size + 2) (wm2m w m p o q) W → (W.cell? ⟨w.heap.size, 0, none⟩ = some (.int .i64 m.gen) ∧ W.cell? ⟨w.heap.size, 1, none⟩ = some (.int .i64 m.cut) ∧ W.cell? ⟨w.heap.size, 2, none⟩ = some (.int .i64 m.fence) ∧ W.cell? ⟨w.heap.size, 3, none⟩ = some (.slice p.AE m.E.length p.cE) ∧ W.cell? ⟨w.heap.size, 4, none⟩ = some (.slice p.AM m.M.length p.cM) ∧ W.cell? ⟨w.heap.size, 5, none⟩ = some (.slice p.AO m.O.length p.cO)) ∧ W.cell? ⟨(w.heap.size + 1), 0, none⟩ = some (.int .i64 o.gen) ∧ W.cell? ⟨(w.heap.size + 1), 1, none⟩ = some (.int .i64 o.cut) ∧ W.cell? ⟨(w.heap.size + 1), 2, none⟩ = some (.int .i64 o.fence) ∧ W.cell? ⟨(w.heap.size + 1), 3, none⟩ = some (.slice q.AE o.E.length q.cE) ∧ W.cell? ⟨(w.heap.size + 1), 4, none⟩ = some (.slice q.AM o.M.length q.cM) ∧ W.cell? ⟨(w.heap.size + 1), 5, none⟩ = some (.slice q.AO o.O.length q.cO)) := Lib.hid fun W hW => by
    have h1 := ((Blk.new w 26 #[.int .i64 m.gen, .int .i64 m.cut, .int .i64 m.fence, .slice p.AE m.E.length p.cE, .slice p.AM m.M.length p.cM, .slice p.AO m.O.length p.cO]).alloc (.cells #[.int .i64 o.gen, .int .i64 o.cut, .int .i64 o.fence, .slice q.AE o.E.length q.cE, .slice q.AM o.M.length q.cM, .slice q.AO o.O.length q.cO] 26)).below hW (by omega)
    have h2 := Blk.new (w.alloc (.cells #[.int .i64 m.gen, .int .i64 m.cut, .int .i64 m.fence, .slice p.AE m.E.length p.cE, .slice p.AM m.M.length p.cM, .slice p.AO m.O.length p.cO] 26)) 26 #[.int .i64 o.gen, .int .i64 o.cut, .int .i64 o.fence, .slice q.AE o.E.length q.cE, .slice q.AM o.M.length q.cM, .slice q.AO o.O.length q.cO]
    rw [World.size_alloc] at h2
    have h3 := Blk.below h2 hW (by omega)
    exact ⟨⟨h1.cell 0, h1.cell 1, h1.cell 2, h1.cell 3, h1.cell 4, h1.cell 5⟩, ⟨h3.cell 0, h3.cell 1, h3.cell 2, h3.cell 3, h3.cell 4, h3.cell 5⟩⟩
  have HB0 : Hid (∀ W, Below (w.heap.size + 2) (wm2m w m p o q) W → Below w.heap.size w W ∧ w.heap.size + 2 ≤ W.heap.size) := Lib.hid fun W hW => ⟨(((Below.refl w.heap.size w).alloc (Nat.le_refl _) _).alloc (by simp) _).trans (hW.mono (by omega)), by have := hW.size; unfold wm2m at this; simp at this; omega⟩
  have HLv := Lib.hid fun W (hW : Below w.heap.size w W) => lives_calls W (hm.below hW hm.lt)
  have HFw := Lib.hid fun W (hW : Below w.heap.size w W) => few_calls W (h.below (hW.mono hB)) (by have := hW.size; omega)
  have HFo := Lib.hid fun W (hW : Below w.heap.size w W) => few_calls W (ho.below (hW.mono hB)) (by have := hW.size; omega)
  have HMn := Lib.hid fun W (hW : Below w.heap.size w W) => h.below (hW.mono hB)
  have HMo := Lib.hid fun W (hW : Below w.heap.size w W) => ho.below (hW.mono hB)
  have HSh := Lib.hid fun W (hW : Below w.heap.size w W) => hm.below hW hm.lt
  have HBw := Lib.hid hB
  have HOk := Lib.hid (And.intro h.ok ho.ok)
  have HWm : Hid (wm2m w m p o q = (w.alloc (.cells #[.int .i64 m.gen, .int .i64 m.cut, .int .i64 m.fence, .slice p.AE m.E.length p.cE, .slice p.AM m.M.length p.cM, .slice p.AO m.O.length p.cO] 26)).alloc (.cells #[.int .i64 o.gen, .int .i64 o.cut, .int .i64 o.fence, .slice q.AE o.E.length q.cE, .slice q.AM o.M.length q.cM, .slice q.AO o.O.length q.cO] 26)) := Lib.hid rfl
  clear h ho hm hB
  obtain ⟨AE, cE, AM, cM, AO, cO⟩ := p
  obtain ⟨OE, c1, OM, c2, OO, c3⟩ := q
  dsimp only at *
  have HW1 := Lib.hid (Below.refl (w.heap.size + 2) (wm2m w m ⟨AE, cE, AM, cM, AO, cO⟩ o ⟨OE, c1, OM, c2, OO, c3⟩))
  go_enter Tryz.func6, Tryz.ntmps6
  go_wp2_with fail
  rw [← HWm.out]
  clear HWm
  generalize wm2m w m ⟨AE, cE, AM, cM, AO, cO⟩ o ⟨OE, c1, OM, c2, OO, c3⟩ = wm at *
  have hb0 := HB0.out _ HW1.out
  refine (HLv.out _ hb0.1).mono ?_
  rintro e w1 ⟨rfl, hb1⟩
  have HW2 : Hid (Below (w.heap.size + 2) wm w1) := Lib.hid (hb1.mono hb0.2)
  have hb2 := HB0.out _ HW2.out
  obtain ⟨⟨s0, s1, s2, s3, s4, s5⟩, -⟩ := HT.out _ HW2.out
  have HX := HFw.out _ hb2.1
  clear hb1 HW1 hb0
  cases hf : fewB m
  · rw [hf] at HX
    have HX2 := Lib.hid HX
    clear HX hf
    go_wp2_with (go_at_call 9; refine HX2.out.mono ?_; rintro e w3 ⟨rfl, hb3⟩)
    have hb4 := hb2.1.trans (hb3.mono hb2.1.size)
    refine (HLv.out _ hb4).mono ?_
    rintro e w5 ⟨rfl, hb5⟩
    go_wp2
    go_ret
    exact ⟨rfl, hb4.trans (hb5.mono hb4.size)⟩
  rw [hf] at HX
  have HX2 := Lib.hid HX
  have HS : Hid (Short m.E) := Lib.hid fun x hx => by have := (few_f hf).2.2.2 x hx; omega
  clear HX hf HFw
  cases hfo : fewB o
  · have HFo2 : Hid (∀ W, Below w.heap.size w W → Calls Tryz.prog 9 #[mdV o ⟨OE, c1, OM, c2, OO, c3⟩] W fun e w' => e = .returned (.bool false) ∧ Below W.heap.size W w') := Lib.hid fun W hW => by have := HFo.out W hW; rw [hfo] at this; exact this
    clear hfo HFo
    go_wp2_with fail
    refine HX2.out.mono ?_
    rintro e w3 ⟨rfl, hb3⟩
    have HW3 : Hid (Below (w.heap.size + 2) wm w3) := Lib.hid (HW2.out.trans (hb3.mono hb2.2))
    have hb3' := HB0.out _ HW3.out
    obtain ⟨-, ⟨l0, l1, l2, l3, l4, l5⟩⟩ := HT.out _ HW3.out
    go_wp2_with fail
    refine (HFo2.out _ hb3'.1).mono ?_
    rintro e w4 ⟨rfl, hb5⟩
    go_wp2_with fail
    have hb6 := hb3'.1.trans (hb5.mono hb3'.1.size)
    refine (HLv.out _ hb6).mono ?_
    rintro e w5 ⟨rfl, hb7⟩
    go_wp2
    go_ret
    exact ⟨rfl, hb6.trans (hb7.mono hb6.size)⟩
  have HFo2 : Hid (∀ W, Below w.heap.size w W → Calls Tryz.prog 9 #[mdV o ⟨OE, c1, OM, c2, OO, c3⟩] W fun e w' => e = .returned (.bool true) ∧ Below W.heap.size W w') := Lib.hid fun W hW => by have := HFo.out W hW; rw [hfo] at this; exact this
  have HSo : Hid (Short o.E) := Lib.hid fun x hx => by have := (few_f hfo).2.2.2 x hx; omega
  clear hfo HFo HLv
  go_wp2_with fail
  refine HX2.out.mono ?_
  rintro e w3 ⟨rfl, hb3⟩
  have HW3 : Hid (Below (w.heap.size + 2) wm w3) := Lib.hid (HW2.out.trans (hb3.mono hb2.2))
  have hb3' := HB0.out _ HW3.out
  obtain ⟨-, ⟨l0, l1, l2, l3, l4, l5⟩⟩ := HT.out _ HW3.out
  go_wp2_with fail
  refine (HFo2.out _ hb3'.1).mono ?_
  rintro e w4 ⟨rfl, hb5⟩
  have HW4 : Hid (Below (w.heap.size + 2) wm w4) := Lib.hid (HW3.out.trans (hb5.mono hb3'.2))
  have hb4 := HB0.out _ HW4.out
  obtain ⟨⟨a0, a1, a2, a3, a4, a5⟩, -⟩ := HT.out _ HW4.out
  go_wp2_with fail
  have HEm := Lib.hid (enc_calls w4 (HMn.out _ hb4.1) (Nat.le_trans HBw.out hb4.1.size) HS.out (HSh.out _ hb4.1))
  clear HX2 HFo2 HW2 HW3 hb3 hb5 hb2 hb3' s0 s1 s2 s3 s4 s5 l0 l1 l2 l3 l4 l5 a0 a1 a2 a3 a4 a5
  refine HEm.out.mono ?_
  rintro e w5 ⟨Ab, cb, rfl, hown5, hb5⟩
  have HYm := Lib.hid fun W (hW : Below w5.heap.size w5 W) => (own_bytes hown5).below hW
  have hcapm := own_capn hown5
  have HW5 : Hid (Below (w.heap.size + 2) wm w5) := Lib.hid (HW4.out.trans (hb5.mono hb4.2))
  have hb50 := HB0.out _ HW5.out
  obtain ⟨-, ⟨l0, l1, l2, l3, l4, l5⟩⟩ := HT.out _ HW5.out
  clear hown5 hb5 HEm hb4 HW4
  go_wp2_with fail
  refine (enc_calls w5 (HMo.out _ hb50.1) (Nat.le_trans HBw.out hb50.1.size) HSo.out (HSh.out _ hb50.1)).mono ?_
  rintro e w6 ⟨Ac, cc, rfl, hown6, hb6⟩
  have HYo := Lib.hid fun W (hW : Below w6.heap.size w6 W) => (own_bytes hown6).below hW
  have HY6 := Lib.hid hb6
  have HW6 : Hid (Below (w.heap.size + 2) wm w6) := Lib.hid (HW5.out.trans (hb6.mono hb50.2))
  have hb60 := HB0.out _ HW6.out
  obtain ⟨⟨s0, s1, s2, s3, s4, s5⟩, -⟩ := HT.out _ HW6.out
  have hs56 := hb6.size
  clear hown6 hb6 hb50 l0 l1 l2 l3 l4 l5 HW5
  cases hr : rightB m
  · have hD : encEr m = 4 := by unfold encEr; rw [hr]; rfl
    rw [hD]
    have HRt := Lib.hid (right_calls w6 (HMn.out _ hb60.1) (Nat.le_trans HBw.out hb60.1.size) HS.out (HSh.out _ hb60.1))
    rw [hr] at HRt
    have HBf := Lib.hid hb60.1
    clear hD hr hb60
    go_wp2_with fail
    refine HRt.out.mono ?_
    rintro e w7 ⟨rfl, hb7⟩
    have HBf2 := Lib.hid (HBf.out.trans (hb7.mono HBf.out.size))
    clear hb7 HRt
    go_wp2
    go_ret
    exact ⟨rfl, HBf2.out⟩
  have hIm := right_in hr HOk.out.1
  have hD : encD m = encB m := by unfold encD; rw [if_pos hr]
  have hE : encEr m = 0 := by unfold encEr; rw [if_pos hr]
  have hdl := encD_len HOk.out.1
  have HDec := Lib.hid (decB_encB hIm hr)
  rw [hE]
  rw [hD] at HYm hdl hcapm ⊢
  have HDc := Lib.hid (dec_calls w6 (HYm.out _ HY6.out) (by omega) hcapm (by omega) (HSh.out _ hb60.1))
  rw [HDec.out] at HDc
  have HSame : Hid (rightB o = true → (encB m == encB o) = sameM m o ∧ encD o = encB o ∧ encEr o = 0) := Lib.hid fun hro => ⟨same_same hIm hr (right_in hro HOk.out.2) hro, by unfold encD; rw [if_pos hro], by unfold encEr; rw [if_pos hro]⟩
  have HNo : Hid (rightB o = false → encEr o = 4) := Lib.hid fun hro => by unfold encEr; rw [hro]; rfl
  have HLn : Hid (m.E.length ≤ 17592186044416 ∧ m.M.length ≤ 17592186044416 ∧ m.O.length ≤ 17592186044416) := Lib.hid ⟨by have := hIm.le; omega, by have := hIm.lm; omega, by have := hIm.lo; omega⟩
  clear hD hE hdl hIm hr HDec hcapm hb60
  generalize encB m = bm at *
  go_wp2_with fail
  refine HDc.out.mono ?_
  rintro e w7 ⟨pz, rfl, hmo, hb7⟩
  obtain ⟨ZE, zE, ZM, zM, ZO, zO⟩ := pz
  have hs7 := hb7.size
  have HW7 : Hid (Below (w.heap.size + 2) wm w7) := Lib.hid (HW6.out.trans (hb7.mono (HB0.out _ HW6.out).2))
  have HY7 := Lib.hid hb7
  have HMx := Lib.hid fun W (hW : Below w7.heap.size w7 W) => (hmo.man HLn.out.1 HLn.out.2.1 HLn.out.2.2 HOk.out.1).below hW
  have HAx := Lib.hid ((Below.refl w7.heap.size w7).alloc (Nat.le_refl _) (.cells #[.int .i64 m.gen, .int .i64 m.cut, .int .i64 m.fence, .slice ZE m.E.length zE, .slice ZM m.M.length zM, .slice ZO m.O.length zO] 26))
  have HBx := Lib.hid (Blk.new w7 26 #[.int .i64 m.gen, .int .i64 m.cut, .int .i64 m.fence, .slice ZE m.E.length zE, .slice ZM m.M.length zM, .slice ZO m.O.length zO])
  have h27 := (HB0.out _ HW7.out).2
  clear hmo hb7 HDc s0 s1 s2 s3 s4 s5
  go_wp2_with fail
  have hs8 : (w7.alloc (.cells #[.int .i64 m.gen, .int .i64 m.cut, .int .i64 m.fence, .slice ZE m.E.length zE, .slice ZM m.M.length zM, .slice ZO m.O.length zO] 26)).heap.size = w7.heap.size + 1 := by simp
  generalize w7.alloc (.cells #[.int .i64 m.gen, .int .i64 m.cut, .int .i64 m.fence, .slice ZE m.E.length zE, .slice ZM m.M.length zM, .slice ZO m.O.length zO] 26) = w8 at *
  have HK7 : Hid (∀ W, Below w8.heap.size w8 W → Below w7.heap.size w7 W) := Lib.hid fun W hW => HAx.out.trans (hW.mono (by omega))
  have HKm : Hid (∀ W, Below w8.heap.size w8 W → Below (w.heap.size + 2) wm W) := Lib.hid fun W hW => HW7.out.trans ((HK7.out W hW).mono h27)
  have Hcells : Hid (∀ W, Below w8.heap.size w8 W → (W.cell? ⟨w7.heap.size, 0, none⟩ = some (.int .i64 m.gen) ∧ W.cell? ⟨w7.heap.size, 1, none⟩ = some (.int .i64 m.cut) ∧ W.cell? ⟨w7.heap.size, 2, none⟩ = some (.int .i64 m.fence) ∧ W.cell? ⟨w7.heap.size, 3, none⟩ = some (.slice ZE m.E.length zE) ∧ W.cell? ⟨w7.heap.size, 4, none⟩ = some (.slice ZM m.M.length zM) ∧ W.cell? ⟨w7.heap.size, 5, none⟩ = some (.slice ZO m.O.length zO)) ∧ (W.cell? ⟨w.heap.size, 0, none⟩ = some (.int .i64 m.gen) ∧ W.cell? ⟨w.heap.size, 1, none⟩ = some (.int .i64 m.cut) ∧ W.cell? ⟨w.heap.size, 2, none⟩ = some (.int .i64 m.fence) ∧ W.cell? ⟨w.heap.size, 3, none⟩ = some (.slice AE m.E.length cE) ∧ W.cell? ⟨w.heap.size, 4, none⟩ = some (.slice AM m.M.length cM) ∧ W.cell? ⟨w.heap.size, 5, none⟩ = some (.slice AO m.O.length cO)) ∧ W.cell? ⟨(w.heap.size + 1), 0, none⟩ = some (.int .i64 o.gen) ∧ W.cell? ⟨(w.heap.size + 1), 1, none⟩ = some (.int .i64 o.cut) ∧ W.cell? ⟨(w.heap.size + 1), 2, none⟩ = some (.int .i64 o.fence) ∧ W.cell? ⟨(w.heap.size + 1), 3, none⟩ = some (.slice OE o.E.length c1) ∧ W.cell? ⟨(w.heap.size + 1), 4, none⟩ = some (.slice OM o.M.length c2) ∧ W.cell? ⟨(w.heap.size + 1), 5, none⟩ = some (.slice OO o.O.length c3)) := Lib.hid fun W hW => by
    have h1 := HBx.out.below hW (by omega)
    exact ⟨⟨h1.cell 0, h1.cell 1, h1.cell 2, h1.cell 3, h1.cell 4, h1.cell 5⟩, HT.out _ (HKm.out W hW)⟩
  have HS1 : Hid (∀ W, Below w8.heap.size w8 W → Calls Tryz.prog 14 #[mdV m ⟨ZE, zE, ZM, zM, ZO, zO⟩, mdV m ⟨AE, cE, AM, cM, AO, cO⟩] W fun e w' => e = .returned (.bool true) ∧ Below w8.heap.size w8 w') := Lib.hid fun W hW => by
    have hb := (HB0.out _ (HKm.out W hW)).1
    have := (sameM_calls W (HMx.out _ (HK7.out W hW)) (HMn.out _ hb) (HK7.out W hW).size (Nat.le_trans HBw.out hb.size)).mono (fun e w' (h : e = .returned (.bool (sameM m m)) ∧ Below W.heap.size W w') => (⟨by rw [h.1, same_self], hW.trans (h.2.mono hW.size)⟩ : e = .returned (.bool true) ∧ Below w8.heap.size w8 w'))
    exact this
  have HS2 : Hid (∀ W, Below w8.heap.size w8 W → Calls Tryz.prog 14 #[mdV m ⟨AE, cE, AM, cM, AO, cO⟩, mdV o ⟨OE, c1, OM, c2, OO, c3⟩] W fun e w' => e = .returned (.bool (sameM m o)) ∧ Below w8.heap.size w8 w') := Lib.hid fun W hW => by
    have hb := (HB0.out _ (HKm.out W hW)).1
    exact (sameM_calls W (HMn.out _ hb) (HMo.out _ hb) (Nat.le_trans HBw.out hb.size) (Nat.le_trans HBw.out hb.size)).mono fun e w' h => ⟨h.1, hW.trans (h.2.mono hW.size)⟩
  have HS3 : Hid (∀ W, Below w8.heap.size w8 W → Calls Tryz.prog 18 #[.slice Ab bm.length cb, .slice Ac (encD o).length cc] W fun e w' => e = .returned (.bool (bm == encD o)) ∧ W = w') := Lib.hid fun W hW => by
    have h7 := HK7.out W hW
    have h6 : Below w6.heap.size w6 W := HY7.out.trans (h7.mono hs7)
    exact Nu.same_calls W (HYm.out _ (HY6.out.trans (h6.mono hs56))) (HYo.out _ h6)
  have HB8 : Hid (Below w8.heap.size w8 (w8.drewN 1)) := Lib.hid (below_drewN_ (Below.refl _ _) 1)
  have HFin : Hid (∀ W, Below w8.heap.size w8 W → Below w.heap.size w W) := Lib.hid fun W hW => (HB0.out _ (HKm.out W hW)).1
  have hg7 : w.heap.size + 1 < w7.heap.size := by omega
  have hg8 : w.heap.size < w7.heap.size := by omega
  clear HMx HAx HBx HYm HYo HY6 HY7 HW6 HW7 HLn HKm HK7
  cases hro : rightB o
  · have hE := HNo.out hro
    rw [hE]
    clear hE hro HSame HNo
    generalize encD o = bo at *
    refine wp_region_T 99 (fun w' => (w'.cell? ⟨w7.heap.size, 0, none⟩ = some (.int .i64 m.gen) ∧ w'.cell? ⟨w7.heap.size, 1, none⟩ = some (.int .i64 m.cut) ∧ w'.cell? ⟨w7.heap.size, 2, none⟩ = some (.int .i64 m.fence) ∧ w'.cell? ⟨w7.heap.size, 3, none⟩ = some (.slice ZE m.E.length zE) ∧ w'.cell? ⟨w7.heap.size, 4, none⟩ = some (.slice ZM m.M.length zM) ∧ w'.cell? ⟨w7.heap.size, 5, none⟩ = some (.slice ZO m.O.length zO)) ∧ (w'.cell? ⟨w.heap.size, 0, none⟩ = some (.int .i64 m.gen) ∧ w'.cell? ⟨w.heap.size, 1, none⟩ = some (.int .i64 m.cut) ∧ w'.cell? ⟨w.heap.size, 2, none⟩ = some (.int .i64 m.fence) ∧ w'.cell? ⟨w.heap.size, 3, none⟩ = some (.slice AE m.E.length cE) ∧ w'.cell? ⟨w.heap.size, 4, none⟩ = some (.slice AM m.M.length cM) ∧ w'.cell? ⟨w.heap.size, 5, none⟩ = some (.slice AO m.O.length cO)) ∧ (w'.cell? ⟨(w.heap.size + 1), 0, none⟩ = some (.int .i64 o.gen) ∧ w'.cell? ⟨(w.heap.size + 1), 1, none⟩ = some (.int .i64 o.cut) ∧ w'.cell? ⟨(w.heap.size + 1), 2, none⟩ = some (.int .i64 o.fence) ∧ w'.cell? ⟨(w.heap.size + 1), 3, none⟩ = some (.slice OE o.E.length c1) ∧ w'.cell? ⟨(w.heap.size + 1), 4, none⟩ = some (.slice OM o.M.length c2) ∧ w'.cell? ⟨(w.heap.size + 1), 5, none⟩ = some (.slice OO o.O.length c3))) (by kernel_rfl) (Hcells.out _ HB8.out) (fun hHeld => ?_)
    refine wpAnyT_take (i := 0) (oi := _) (v := ?_) rfl (by kernel_rfl) (fun _ _ _ h => h) (Or.inl ⟨by kernel_rfl, ?_⟩) (by assumption) ?_; rotate_left; (focus (intro w hSw; (try dsimp only at hSw); go_simp; (try with_reducible rfl))); (try simp only [Act.put, List.getElem_toArray, List.getElem_cons_zero, List.setIfInBounds_toArray, List.set_cons_zero, List.set_cons_succ])
    refine wpAnyT_take (i := 1) (oi := _) (v := ?_) rfl (by kernel_rfl) (fun _ _ _ h => h) (Or.inl ⟨by kernel_rfl, ?_⟩) (by assumption) ?_; rotate_left; (focus (intro w hSw; (try dsimp only at hSw); go_simp; (try with_reducible rfl))); (try simp only [Act.put, List.getElem_toArray, List.getElem_cons_zero, List.getElem_cons_succ, List.setIfInBounds_toArray, List.set_cons_zero, List.set_cons_succ])
    refine wpAnyT_take (i := 2) (oi := _) (v := ?_) rfl (by kernel_rfl) (fun _ _ _ h => h) (Or.inl ⟨by kernel_rfl, ?_⟩) (by assumption) ?_; rotate_left; (focus (intro w hSw; (try dsimp only at hSw); go_simp; (try with_reducible rfl))); (try simp only [Act.put, List.getElem_toArray, List.getElem_cons_zero, List.getElem_cons_succ, List.setIfInBounds_toArray, List.set_cons_zero, List.set_cons_succ])
    refine wpAnyT_take (i := 3) (oi := _) (v := ?_) rfl (by kernel_rfl) (fun _ _ _ h => h) (Or.inl ⟨by kernel_rfl, ?_⟩) (by assumption) ?_; rotate_left; (focus (intro w hSw; (try dsimp only at hSw); go_simp; (try with_reducible rfl))); (try simp only [Act.put, List.getElem_toArray, List.getElem_cons_zero, List.getElem_cons_succ, List.setIfInBounds_toArray, List.set_cons_zero, List.set_cons_succ])
    refine wpAnyT_take (i := 4) (oi := _) (v := ?_) rfl (by kernel_rfl) (fun _ _ _ h => h) (Or.inl ⟨by kernel_rfl, ?_⟩) (by assumption) ?_; rotate_left; (focus (intro w hSw; (try dsimp only at hSw); go_simp; (try with_reducible rfl))); (try simp only [Act.put, List.getElem_toArray, List.getElem_cons_zero, List.getElem_cons_succ, List.setIfInBounds_toArray, List.set_cons_zero, List.set_cons_succ])
    refine wpAnyT_one (i := 5) (by kernel_rfl) rfl (fun K hK => ?_); go_simp
    refine (HS1.out _ HB8.out).mono ?_
    rintro e w9 ⟨rfl, he9⟩
    have hc9 := Hcells.out _ he9
    refine hK.out _ _ (fun _ => hc9) ?_
    clear hK K hHeld
    (try simp only [Act.put, List.getElem_toArray, List.getElem_cons_zero, List.getElem_cons_succ, List.setIfInBounds_toArray, List.set_cons_zero, List.set_cons_succ])
    refine wpAnyT_take (i := 6) (oi := _) (v := ?_) rfl (by kernel_rfl) (fun _ _ _ h => h) (Or.inl ⟨by kernel_rfl, ?_⟩) (by assumption) ?_; rotate_left; (focus (intro w hSw; (try dsimp only at hSw); go_simp; (try with_reducible rfl))); (try simp only [Act.put, List.getElem_toArray, List.getElem_cons_zero, List.getElem_cons_succ, List.setIfInBounds_toArray, List.set_cons_zero, List.set_cons_succ])
    refine wpAnyT_take (i := 7) (oi := _) (v := ?_) rfl (by kernel_rfl) (fun _ _ _ h => h) (Or.inl ⟨by kernel_rfl, ?_⟩) (by assumption) ?_; rotate_left; (focus (intro w hSw; (try dsimp only at hSw); go_simp; (try with_reducible rfl))); (try simp only [Act.put, List.getElem_toArray, List.getElem_cons_zero, List.getElem_cons_succ, List.setIfInBounds_toArray, List.set_cons_zero, List.set_cons_succ])
    refine wpAnyT_take (i := 8) (oi := _) (v := ?_) rfl (by kernel_rfl) (fun _ _ _ h => h) (Or.inl ⟨by kernel_rfl, ?_⟩) (by assumption) ?_; rotate_left; (focus (intro w hSw; (try dsimp only at hSw); go_simp; (try with_reducible rfl))); (try simp only [Act.put, List.getElem_toArray, List.getElem_cons_zero, List.getElem_cons_succ, List.setIfInBounds_toArray, List.set_cons_zero, List.set_cons_succ])
    refine wpAnyT_take (i := 9) (oi := _) (v := ?_) rfl (by kernel_rfl) (fun _ _ _ h => h) (Or.inl ⟨by kernel_rfl, ?_⟩) (by assumption) ?_; rotate_left; (focus (intro w hSw; (try dsimp only at hSw); go_simp; (try with_reducible rfl))); (try simp only [Act.put, List.getElem_toArray, List.getElem_cons_zero, List.getElem_cons_succ, List.setIfInBounds_toArray, List.set_cons_zero, List.set_cons_succ])
    refine wpAnyT_take (i := 10) (oi := _) (v := ?_) rfl (by kernel_rfl) (fun _ _ _ h => h) (Or.inl ⟨by kernel_rfl, ?_⟩) (by assumption) ?_; rotate_left; (focus (intro w hSw; (try dsimp only at hSw); go_simp; (try with_reducible rfl))); (try simp only [Act.put, List.getElem_toArray, List.getElem_cons_zero, List.getElem_cons_succ, List.setIfInBounds_toArray, List.set_cons_zero, List.set_cons_succ])
    refine wpAnyT_take (i := 11) (oi := _) (v := undef) rfl (by kernel_rfl) (fun _ _ _ h => h) (Or.inr ⟨by kernel_rfl, rfl⟩) (by assumption) ?_; (try simp only [Act.put, List.getElem_toArray, List.getElem_cons_zero, List.getElem_cons_succ, List.setIfInBounds_toArray, List.set_cons_zero, List.set_cons_succ])
    refine wpAnyT_take (i := 12) (oi := _) (v := undef) rfl (by kernel_rfl) (fun _ _ _ h => h) (Or.inr ⟨by kernel_rfl, rfl⟩) (by assumption) ?_; (try simp only [Act.put, List.getElem_toArray, List.getElem_cons_zero, List.getElem_cons_succ, List.setIfInBounds_toArray, List.set_cons_zero, List.set_cons_succ])
    refine wpAnyT_take (i := 14) (oi := _) (v := undef) rfl (by kernel_rfl) (fun _ _ _ h => h) (Or.inr ⟨by kernel_rfl, rfl⟩) (by assumption) ?_; (try simp only [Act.put, List.getElem_toArray, List.getElem_cons_zero, List.getElem_cons_succ, List.setIfInBounds_toArray, List.set_cons_zero, List.set_cons_succ])
    refine wpAnyT_take (i := 15) (oi := _) (v := undef) rfl (by kernel_rfl) (fun _ _ _ h => h) (Or.inr ⟨by kernel_rfl, rfl⟩) (by assumption) ?_; (try simp only [Act.put, List.getElem_toArray, List.getElem_cons_zero, List.getElem_cons_succ, List.setIfInBounds_toArray, List.set_cons_zero, List.set_cons_succ])
    refine wpAnyT_one (i := 13) (by kernel_rfl) rfl (fun K hK => ?_); go_simp
    refine hK.out _ _ (fun _ => hc9) ?_
    clear hK K
    (try simp only [Act.put, List.getElem_toArray, List.getElem_cons_zero, List.getElem_cons_succ, List.setIfInBounds_toArray, List.set_cons_zero, List.set_cons_succ])
    refine wpAnyT_one (i := 16) (by kernel_rfl) rfl (fun K hK => ?_); go_simp
    refine hK.out _ _ (fun _ => hc9) ?_
    clear hK K
    (try simp only [Act.put, List.getElem_toArray, List.getElem_cons_zero, List.getElem_cons_succ, List.setIfInBounds_toArray, List.set_cons_zero, List.set_cons_succ])
    refine wpAnyT_take (i := 17) (oi := _) (v := undef) rfl (by kernel_rfl) (fun _ _ _ h => h) (Or.inr ⟨by kernel_rfl, rfl⟩) (by assumption) ?_; (try simp only [Act.put, List.getElem_toArray, List.getElem_cons_zero, List.getElem_cons_succ, List.setIfInBounds_toArray, List.set_cons_zero, List.set_cons_succ])
    refine wpAnyT_take (i := 18) (oi := _) (v := ?_) rfl (by kernel_rfl) (fun _ _ _ h => h) (Or.inl ⟨by kernel_rfl, ?_⟩) (by assumption) ?_; rotate_left; (focus (intro w hSw; (try dsimp only at hSw); go_simp; (try with_reducible rfl))); (try simp only [Act.put, List.getElem_toArray, List.getElem_cons_zero, List.getElem_cons_succ, List.setIfInBounds_toArray, List.set_cons_zero, List.set_cons_succ])
    refine wpAnyT_take (i := 19) (oi := _) (v := ?_) rfl (by kernel_rfl) (fun _ _ _ h => h) (Or.inl ⟨by kernel_rfl, ?_⟩) (by assumption) ?_; rotate_left; (focus (intro w hSw; (try dsimp only at hSw); go_simp; (try with_reducible rfl))); (try simp only [Act.put, List.getElem_toArray, List.getElem_cons_zero, List.getElem_cons_succ, List.setIfInBounds_toArray, List.set_cons_zero, List.set_cons_succ])
    refine wpAnyT_take (i := 20) (oi := _) (v := ?_) rfl (by kernel_rfl) (fun _ _ _ h => h) (Or.inl ⟨by kernel_rfl, ?_⟩) (by assumption) ?_; rotate_left; (focus (intro w hSw; (try dsimp only at hSw); go_simp; (try with_reducible rfl))); (try simp only [Act.put, List.getElem_toArray, List.getElem_cons_zero, List.getElem_cons_succ, List.setIfInBounds_toArray, List.set_cons_zero, List.set_cons_succ])
    refine wpAnyT_done (by kernel_rfl) ?_ _
    clear hc9
    have hfin := HFin.out _ he9
    clear he9
    go_wp2
    go_ret
    exact ⟨rfl, hfin⟩
  · obtain ⟨h1, h2, h3⟩ := HSame.out hro
    rw [h3]
    rw [h2] at HS3 ⊢
    rw [h1] at HS3
    generalize encB o = bo at *
    generalize sameM m o = sm at *
    have hsm : (sm == sm) = true := beq_self_eq_true sm
    clear h1 h2 h3 hro HSame HNo
    refine wp_region_T 99 (fun w' => (w'.cell? ⟨w7.heap.size, 0, none⟩ = some (.int .i64 m.gen) ∧ w'.cell? ⟨w7.heap.size, 1, none⟩ = some (.int .i64 m.cut) ∧ w'.cell? ⟨w7.heap.size, 2, none⟩ = some (.int .i64 m.fence) ∧ w'.cell? ⟨w7.heap.size, 3, none⟩ = some (.slice ZE m.E.length zE) ∧ w'.cell? ⟨w7.heap.size, 4, none⟩ = some (.slice ZM m.M.length zM) ∧ w'.cell? ⟨w7.heap.size, 5, none⟩ = some (.slice ZO m.O.length zO)) ∧ (w'.cell? ⟨w.heap.size, 0, none⟩ = some (.int .i64 m.gen) ∧ w'.cell? ⟨w.heap.size, 1, none⟩ = some (.int .i64 m.cut) ∧ w'.cell? ⟨w.heap.size, 2, none⟩ = some (.int .i64 m.fence) ∧ w'.cell? ⟨w.heap.size, 3, none⟩ = some (.slice AE m.E.length cE) ∧ w'.cell? ⟨w.heap.size, 4, none⟩ = some (.slice AM m.M.length cM) ∧ w'.cell? ⟨w.heap.size, 5, none⟩ = some (.slice AO m.O.length cO)) ∧ (w'.cell? ⟨(w.heap.size + 1), 0, none⟩ = some (.int .i64 o.gen) ∧ w'.cell? ⟨(w.heap.size + 1), 1, none⟩ = some (.int .i64 o.cut) ∧ w'.cell? ⟨(w.heap.size + 1), 2, none⟩ = some (.int .i64 o.fence) ∧ w'.cell? ⟨(w.heap.size + 1), 3, none⟩ = some (.slice OE o.E.length c1) ∧ w'.cell? ⟨(w.heap.size + 1), 4, none⟩ = some (.slice OM o.M.length c2) ∧ w'.cell? ⟨(w.heap.size + 1), 5, none⟩ = some (.slice OO o.O.length c3))) (by kernel_rfl) (Hcells.out _ HB8.out) (fun hHeld => ?_)
    refine wpAnyT_take (i := 0) (oi := _) (v := ?_) rfl (by kernel_rfl) (fun _ _ _ h => h) (Or.inl ⟨by kernel_rfl, ?_⟩) (by assumption) ?_; rotate_left; (focus (intro w hSw; (try dsimp only at hSw); go_simp; (try with_reducible rfl))); (try simp only [Act.put, List.getElem_toArray, List.getElem_cons_zero, List.setIfInBounds_toArray, List.set_cons_zero, List.set_cons_succ])
    refine wpAnyT_take (i := 1) (oi := _) (v := ?_) rfl (by kernel_rfl) (fun _ _ _ h => h) (Or.inl ⟨by kernel_rfl, ?_⟩) (by assumption) ?_; rotate_left; (focus (intro w hSw; (try dsimp only at hSw); go_simp; (try with_reducible rfl))); (try simp only [Act.put, List.getElem_toArray, List.getElem_cons_zero, List.getElem_cons_succ, List.setIfInBounds_toArray, List.set_cons_zero, List.set_cons_succ])
    refine wpAnyT_take (i := 2) (oi := _) (v := ?_) rfl (by kernel_rfl) (fun _ _ _ h => h) (Or.inl ⟨by kernel_rfl, ?_⟩) (by assumption) ?_; rotate_left; (focus (intro w hSw; (try dsimp only at hSw); go_simp; (try with_reducible rfl))); (try simp only [Act.put, List.getElem_toArray, List.getElem_cons_zero, List.getElem_cons_succ, List.setIfInBounds_toArray, List.set_cons_zero, List.set_cons_succ])
    refine wpAnyT_take (i := 3) (oi := _) (v := ?_) rfl (by kernel_rfl) (fun _ _ _ h => h) (Or.inl ⟨by kernel_rfl, ?_⟩) (by assumption) ?_; rotate_left; (focus (intro w hSw; (try dsimp only at hSw); go_simp; (try with_reducible rfl))); (try simp only [Act.put, List.getElem_toArray, List.getElem_cons_zero, List.getElem_cons_succ, List.setIfInBounds_toArray, List.set_cons_zero, List.set_cons_succ])
    refine wpAnyT_take (i := 4) (oi := _) (v := ?_) rfl (by kernel_rfl) (fun _ _ _ h => h) (Or.inl ⟨by kernel_rfl, ?_⟩) (by assumption) ?_; rotate_left; (focus (intro w hSw; (try dsimp only at hSw); go_simp; (try with_reducible rfl))); (try simp only [Act.put, List.getElem_toArray, List.getElem_cons_zero, List.getElem_cons_succ, List.setIfInBounds_toArray, List.set_cons_zero, List.set_cons_succ])
    refine wpAnyT_one (i := 5) (by kernel_rfl) rfl (fun K hK => ?_); go_simp
    refine (HS1.out _ HB8.out).mono ?_
    rintro e w9 ⟨rfl, he9⟩
    have hc9 := Hcells.out _ he9
    refine hK.out _ _ (fun _ => hc9) ?_
    clear hK K hHeld
    (try simp only [Act.put, List.getElem_toArray, List.getElem_cons_zero, List.getElem_cons_succ, List.setIfInBounds_toArray, List.set_cons_zero, List.set_cons_succ])
    refine wpAnyT_take (i := 6) (oi := _) (v := ?_) rfl (by kernel_rfl) (fun _ _ _ h => h) (Or.inl ⟨by kernel_rfl, ?_⟩) (by assumption) ?_; rotate_left; (focus (intro w hSw; (try dsimp only at hSw); go_simp; (try with_reducible rfl))); (try simp only [Act.put, List.getElem_toArray, List.getElem_cons_zero, List.getElem_cons_succ, List.setIfInBounds_toArray, List.set_cons_zero, List.set_cons_succ])
    refine wpAnyT_take (i := 7) (oi := _) (v := ?_) rfl (by kernel_rfl) (fun _ _ _ h => h) (Or.inl ⟨by kernel_rfl, ?_⟩) (by assumption) ?_; rotate_left; (focus (intro w hSw; (try dsimp only at hSw); go_simp; (try with_reducible rfl))); (try simp only [Act.put, List.getElem_toArray, List.getElem_cons_zero, List.getElem_cons_succ, List.setIfInBounds_toArray, List.set_cons_zero, List.set_cons_succ])
    refine wpAnyT_take (i := 8) (oi := _) (v := ?_) rfl (by kernel_rfl) (fun _ _ _ h => h) (Or.inl ⟨by kernel_rfl, ?_⟩) (by assumption) ?_; rotate_left; (focus (intro w hSw; (try dsimp only at hSw); go_simp; (try with_reducible rfl))); (try simp only [Act.put, List.getElem_toArray, List.getElem_cons_zero, List.getElem_cons_succ, List.setIfInBounds_toArray, List.set_cons_zero, List.set_cons_succ])
    refine wpAnyT_take (i := 9) (oi := _) (v := ?_) rfl (by kernel_rfl) (fun _ _ _ h => h) (Or.inl ⟨by kernel_rfl, ?_⟩) (by assumption) ?_; rotate_left; (focus (intro w hSw; (try dsimp only at hSw); go_simp; (try with_reducible rfl))); (try simp only [Act.put, List.getElem_toArray, List.getElem_cons_zero, List.getElem_cons_succ, List.setIfInBounds_toArray, List.set_cons_zero, List.set_cons_succ])
    refine wpAnyT_take (i := 10) (oi := _) (v := ?_) rfl (by kernel_rfl) (fun _ _ _ h => h) (Or.inl ⟨by kernel_rfl, ?_⟩) (by assumption) ?_; rotate_left; (focus (intro w hSw; (try dsimp only at hSw); go_simp; (try with_reducible rfl))); (try simp only [Act.put, List.getElem_toArray, List.getElem_cons_zero, List.getElem_cons_succ, List.setIfInBounds_toArray, List.set_cons_zero, List.set_cons_succ])
    refine wpAnyT_take (i := 11) (oi := _) (v := ?_) rfl (by kernel_rfl) (fun _ _ _ h => h) (Or.inl ⟨by kernel_rfl, ?_⟩) (by assumption) ?_; rotate_left; (focus (intro w hSw; (try dsimp only at hSw); go_simp; (try with_reducible rfl))); (try simp only [Act.put, List.getElem_toArray, List.getElem_cons_zero, List.getElem_cons_succ, List.setIfInBounds_toArray, List.set_cons_zero, List.set_cons_succ])
    refine wpAnyT_take (i := 12) (oi := _) (v := ?_) rfl (by kernel_rfl) (fun _ _ _ h => h) (Or.inl ⟨by kernel_rfl, ?_⟩) (by assumption) ?_; rotate_left; (focus (intro w hSw; (try dsimp only at hSw); go_simp; (try with_reducible rfl))); (try simp only [Act.put, List.getElem_toArray, List.getElem_cons_zero, List.getElem_cons_succ, List.setIfInBounds_toArray, List.set_cons_zero, List.set_cons_succ])
    refine wpAnyT_take (i := 14) (oi := _) (v := ?_) rfl (by kernel_rfl) (fun _ _ _ h => h) (Or.inl ⟨by kernel_rfl, ?_⟩) (by assumption) ?_; rotate_left; (focus (intro w hSw; (try dsimp only at hSw); go_simp; (try with_reducible rfl))); (try simp only [Act.put, List.getElem_toArray, List.getElem_cons_zero, List.getElem_cons_succ, List.setIfInBounds_toArray, List.set_cons_zero, List.set_cons_succ])
    refine wpAnyT_take (i := 15) (oi := _) (v := ?_) rfl (by kernel_rfl) (fun _ _ _ h => h) (Or.inl ⟨by kernel_rfl, ?_⟩) (by assumption) ?_; rotate_left; (focus (intro w hSw; (try dsimp only at hSw); go_simp; (try with_reducible rfl))); (try simp only [Act.put, List.getElem_toArray, List.getElem_cons_zero, List.getElem_cons_succ, List.setIfInBounds_toArray, List.set_cons_zero, List.set_cons_succ])
    refine wpAnyT_one (i := 13) (by kernel_rfl) rfl (fun K hK => ?_); go_simp
    refine (HS3.out _ he9).mono ?_
    rintro e w10 ⟨rfl, rfl⟩
    refine hK.out _ _ (fun _ => hc9) ?_
    clear hK K
    (try simp only [Act.put, List.getElem_toArray, List.getElem_cons_zero, List.getElem_cons_succ, List.setIfInBounds_toArray, List.set_cons_zero, List.set_cons_succ])
    refine wpAnyT_one (i := 16) (by kernel_rfl) rfl (fun K hK => ?_); go_simp
    refine (HS2.out _ he9).mono ?_
    rintro e w11 ⟨rfl, he11⟩
    have hc11 := Hcells.out _ he11
    refine hK.out _ _ (fun _ => hc11) ?_
    clear hK K hc9
    (try simp only [Act.put, List.getElem_toArray, List.getElem_cons_zero, List.getElem_cons_succ, List.setIfInBounds_toArray, List.set_cons_zero, List.set_cons_succ])
    refine wpAnyT_take (i := 17) (oi := _) (v := ?_) rfl (by kernel_rfl) (fun _ _ _ h => h) (Or.inl ⟨by kernel_rfl, ?_⟩) (by assumption) ?_; rotate_left; (focus (intro w hSw; (try dsimp only at hSw); go_simp; (try with_reducible rfl))); (try simp only [Act.put, List.getElem_toArray, List.getElem_cons_zero, List.getElem_cons_succ, List.setIfInBounds_toArray, List.set_cons_zero, List.set_cons_succ])
    refine wpAnyT_take (i := 18) (oi := _) (v := ?_) rfl (by kernel_rfl) (fun _ _ _ h => h) (Or.inl ⟨by kernel_rfl, ?_⟩) (by assumption) ?_; rotate_left; (focus (intro w hSw; (try dsimp only at hSw); go_simp; (try with_reducible rfl))); (try simp only [Act.put, List.getElem_toArray, List.getElem_cons_zero, List.getElem_cons_succ, List.setIfInBounds_toArray, List.set_cons_zero, List.set_cons_succ])
    refine wpAnyT_take (i := 19) (oi := _) (v := ?_) rfl (by kernel_rfl) (fun _ _ _ h => h) (Or.inl ⟨by kernel_rfl, ?_⟩) (by assumption) ?_; rotate_left; (focus (intro w hSw; (try dsimp only at hSw); go_simp; (try with_reducible rfl))); (try simp only [Act.put, List.getElem_toArray, List.getElem_cons_zero, List.getElem_cons_succ, List.setIfInBounds_toArray, List.set_cons_zero, List.set_cons_succ])
    refine wpAnyT_take (i := 20) (oi := _) (v := ?_) rfl (by kernel_rfl) (fun _ _ _ h => h) (Or.inl ⟨by kernel_rfl, ?_⟩) (by assumption) ?_; rotate_left; (focus (intro w hSw; (try dsimp only at hSw); go_simp; (try with_reducible rfl))); (try simp only [Act.put, List.getElem_toArray, List.getElem_cons_zero, List.getElem_cons_succ, List.setIfInBounds_toArray, List.set_cons_zero, List.set_cons_succ])
    refine wpAnyT_done (by kernel_rfl) ?_ _
    clear hc11
    have hfin := HFin.out _ he11
    clear he9 he11
    go_wp2
    go_ret
    exact ⟨rfl, hfin⟩
theorem walk {H : Type} {enc : TypeId × Value → H} {W : World} {base : Nat} {v0 v1 : Value} {d0 d1 : DataW H} {p0 p1 : List MemPlace} (hsh : W.ShapedOpen Tryz.prog) (g0 : Arg enc Tryz.prog W base 26 v0 d0 p0) (g1 : Arg enc Tryz.prog W base 26 v1 d1 p1) :
    Calls Tryz.prog 6 #[v0, v1] W fun e w' => e = .returned (.bool true) ∧ Below W.heap.size W w' := by
  obtain ⟨m, p, rfl, hm⟩ := arg_man g0
  obtain ⟨o, q, rfl, ho⟩ := arg_man g1
  exact body W hm ho (Nat.le_refl _) (var0 hsh)
end Go.Proofs.YtjbmlhipjceeeaaGreat.lawManifestBack
