/- The walk of ManifestApplies. -/
import Derived.Test.YtjbmlhipjceeeaaGreatProg
import Derived.Test.YtjbmlhipjceeeaaGreatMfU
import Derived.Test.YtjbmlhipjceeeaaGreatMfTw
import Derived.Test.YtjbmlhipjceeeaaGreatMfW
import Derived.Test.YtjbmlhipjceeeaaGreatMfX
import Derived.Test.YtjbmlhipjceeeaaGreatMfZ
namespace Go.Proofs.YtjbmlhipjceeeaaGreat.lawManifestApplies
open Go.RowKit Go.Proofs.YtjbmlhipjceeeaaGreat Go.Proofs.YtjbmlhipjceeeaaGreat.Mf

/-- A row of a call's own whose cells may be written: its block lies from base on, below top. -/
def Wr (W : World) (base top : Nat) (t : TypeId) (k : Nat) (A : Option Addr) (n : Nat) : Prop := 0 < n → ∃ g cur, A = some ⟨g, 0, none⟩ ∧ base ≤ g ∧ g < top ∧ Blk W g t cur ∧ n * k ≤ cur.size
theorem Wr.of_own {W : World} {base k n c : Nat} {t : TypeId} {A : Option Addr} {xs : List Value} (h : W.ownsRow base t k (.slice A n c) n xs) : Wr W base W.heap.size t k A n := fun hn => by
  obtain ⟨g, cur, rfl, hb, hg, h1, _, h3, _⟩ := own_blk h hn
  exact ⟨g, cur, rfl, hb, hg.lt, hg, by rw [h3]; exact Nat.mul_le_mul_right _ h1⟩
theorem Wr.below {W W' : World} {base top k n : Nat} {t : TypeId} {A : Option Addr} (h : Wr W base top t k A n) (hb : Below W.heap.size W W') : Wr W' base top t k A n := fun hn => by
  obtain ⟨g, cur, rfl, h1, h2, hg, h3⟩ := h hn
  exact ⟨g, cur, rfl, h1, h2, hg.below hb hg.lt, h3⟩
theorem Wr.set {W : World} {base top k n : Nat} {t : TypeId} {A : Option Addr} (h : Wr W base top t k A n) (g' i : Nat) (v : Value) : Wr (W.setCell ⟨g', i, none⟩ v) base top t k A n := fun hn => by
  obtain ⟨g, cur, rfl, h1, h2, hg, h3⟩ := h hn
  by_cases e : g = g'
  · subst e
    exact ⟨g, _, rfl, h1, h2, hg.set_ i v, by simpa using h3⟩
  · exact ⟨g, cur, rfl, h1, h2, hg.far e v, h3⟩
theorem appM_lens {m : Md} {d : Ed} (hE : ∀ x ∈ m.E, x.Ok) (hD : ∀ x ∈ d.add, x.Ok) : (appM m d).E.length ≤ 17592186044416 ∧ (appM m d).M.length ≤ 17592186044416 ∧ (appM m d).O.length ≤ 17592186044416 ∧ ∀ x ∈ (appM m d).E, x.Ok := by
  by_cases h0 : appE m d = 0
  · rw [appM_ok h0]
    have hF := (appE_zero.1 h0).1.f
    have hl := (appE_zero.1 h0).2
    refine ⟨Nat.le_trans hl (by omega), ?_, ?_, fun x hx => ?_⟩
    · have := srt_len (l := (appl m d).M) (a := 1) (b := 64) (hF.right hl).srtM (fun x hx => (mk_in ((hF.right hl).mkM x hx)).1) (by omega)
      omega
    · have := srt_len (l := (appl m d).O) (a := 1) (b := 8) (hF.right hl).srtO (fun x hx => (ow_in ((hF.right hl).owO x hx)).1) (by omega)
      omega
    · rcases (ents_mem.1 hx).1 with h1 | h1
      · exact hD x h1
      · exact hE x h1.1
  · rw [appM_no h0]
    exact ⟨Nat.zero_le _, Nat.zero_le _, Nat.zero_le _, fun x hx => by cases hx⟩
theorem same_self (m : Md) : sameM m m = true := dct rfl

set_option maxRecDepth 100000 in
set_option maxHeartbeats 12800000 in
theorem body (w : World) {B : Nat} {m : Md} {p : Pl} {d : Ed} {q : Pd} (h : Man w B m p) (hd : Edi w B d q) (hB : B ≤ w.heap.size) (hm : Sh w) :
    Calls Tryz.prog 3 #[mdV m p, edV d q] w fun e w' => e = .returned (.bool true) ∧ Below w.heap.size w w' := by
  have HT := Lib.hid fun W => wm2_at w m p d q (W := W)
  have HB0 := Lib.hid fun W => wm2_below w m p d q (W := W)
  have HLv := Lib.hid fun W (hW : Below w.heap.size w W) => lives_calls W (hm.below hW hm.lt)
  have HFw := Lib.hid fun W (hW : Below w.heap.size w W) => few_calls W (h.below (hW.mono hB)) (by have := hW.size; omega)
  have HFd := Lib.hid fun W (hW : Below w.heap.size w W) => fewD_calls W (hd.below (hW.mono hB)) (by have := hW.size; omega)
  have HMn := Lib.hid fun W (hW : Below w.heap.size w W) => h.below (hW.mono hB)
  have HEd := Lib.hid fun W (hW : Below w.heap.size w W) => hd.below (hW.mono hB)
  have HSh := Lib.hid fun W (hW : Below w.heap.size w W) => hm.below hW hm.lt
  have HBw := Lib.hid hB
  have HWm : Hid (wm2 w m p d q = (w.alloc (.cells #[.int .i64 m.gen, .int .i64 m.cut, .int .i64 m.fence, .slice p.AE m.E.length p.cE, .slice p.AM m.M.length p.cM, .slice p.AO m.O.length p.cO] 26)).alloc (.cells #[.slice q.AA d.add.length q.cA, .slice q.AD d.drop.length q.cD, .slice q.AM d.marks.length q.cM, .int .i64 d.cut, .int .i64 d.fence, .int .i64 d.by_.agent, .int .i64 d.by_.life, .int .i64 d.by_.count] 31)) := Lib.hid rfl
  clear h hd hm hB
  obtain ⟨AE, cE, AM, cM, AO, cO⟩ := p
  obtain ⟨DA, c1, DD, c2, DM, c3⟩ := q
  dsimp only at *
  have HW1 := Lib.hid (Below.refl (w.heap.size + 2) (wm2 w m ⟨AE, cE, AM, cM, AO, cO⟩ d ⟨DA, c1, DD, c2, DM, c3⟩))
  go_enter Tryz.func3, Tryz.ntmps3
  go_wp2_with fail
  rw [← HWm.out]
  clear HWm
  generalize wm2 w m ⟨AE, cE, AM, cM, AO, cO⟩ d ⟨DA, c1, DD, c2, DM, c3⟩ = wm at *
  have hb0 := HB0.out _ HW1.out
  refine (HLv.out _ hb0.1).mono ?_
  rintro e w1 ⟨rfl, hb1⟩
  have HW2 : Hid (Below (w.heap.size + 2) wm w1) := Lib.hid (hb1.mono hb0.2)
  have hb2 := HB0.out _ HW2.out
  obtain ⟨⟨s0, s1, s2, s3, s4, s5⟩, ⟨t0, t1, t2, t3, t4, t5, t6, t7⟩⟩ := HT.out _ HW2.out
  clear hb1 HW1 hb0
  cases hf : fewB m
  · have HX := HFw.out _ hb2.1
    rw [hf] at HX
    have HX2 := Lib.hid HX
    clear HX hf
    go_wp2_with (go_at_call 9; refine HX2.out.mono ?_; rintro e w3 ⟨rfl, hb3⟩)
    have hb4 := hb2.1.trans (hb3.mono hb2.1.size)
    refine (HLv.out _ hb4).mono ?_
    rintro e w5 ⟨rfl, hb5⟩
    go_wp2
    go_ret
    exact ⟨rfl, hb4.trans (hb5.mono hb4.size)⟩
  have HX := HFw.out _ hb2.1
  rw [hf] at HX
  have HX2 := Lib.hid HX
  clear HX
  cases hfd : fewD d
  · have HFd2 : Hid (∀ W, Below w.heap.size w W → Calls Tryz.prog 10 #[edV d ⟨DA, c1, DD, c2, DM, c3⟩] W fun e w' => e = .returned (.bool false) ∧ Below W.heap.size W w') := Lib.hid fun W hW => by have := HFd.out W hW; rw [hfd] at this; exact this
    clear hf hfd
    go_wp2_with first | (go_at_call 9; refine HX2.out.mono ?_; rintro e w3 ⟨rfl, hb3⟩; have HW3 : Hid (Below (w.heap.size + 2) wm w3) := Lib.hid (HW2.out.trans (hb3.mono hb2.2)); have hb3' := HB0.out _ HW3.out; obtain ⟨-, ⟨l0, l1, l2, l3, l4, l5, l6, l7⟩⟩ := HT.out _ HW3.out) | (go_at_call 10; refine (HFd2.out _ hb3'.1).mono ?_; rintro e w4 ⟨rfl, hb5⟩)
    have hb6 := hb3'.1.trans (hb5.mono hb3'.1.size)
    refine (HLv.out _ hb6).mono ?_
    rintro e w5 ⟨rfl, hb7⟩
    go_wp2
    go_ret
    exact ⟨rfl, hb6.trans (hb7.mono hb6.size)⟩
  have HFd2 : Hid (∀ W, Below w.heap.size w W → Calls Tryz.prog 10 #[edV d ⟨DA, c1, DD, c2, DM, c3⟩] W fun e w' => e = .returned (.bool true) ∧ Below W.heap.size W w') := Lib.hid fun W hW => by have := HFd.out W hW; rw [hfd] at this; exact this
  have HSE : Hid (Short m.E) := Lib.hid fun x hx => by have := (few_f hf).2.2.2 x hx; omega
  have HSD : Hid (Short d.add) := Lib.hid fun x hx => by have := (fewD_f hfd).2.2.2 x hx; omega
  have HLen := Lib.hid (And.intro (few_f hf) (fewD_f hfd))
  clear hf hfd HFw HFd
  go_wp2_with first | (go_at_call 9; refine HX2.out.mono ?_; rintro e w3 ⟨rfl, hb3⟩; have HW3 : Hid (Below (w.heap.size + 2) wm w3) := Lib.hid (HW2.out.trans (hb3.mono hb2.2)); have hb3' := HB0.out _ HW3.out; obtain ⟨-, ⟨l0, l1, l2, l3, l4, l5, l6, l7⟩⟩ := HT.out _ HW3.out) | (go_at_call 10; refine (HFd2.out _ hb3'.1).mono ?_; rintro e w4 ⟨rfl, hb5⟩; have HW4 : Hid (Below (w.heap.size + 2) wm w4) := Lib.hid (HW3.out.trans (hb5.mono hb3'.2)); have hb4 := HB0.out _ HW4.out; obtain ⟨⟨a0, a1, a2, a3, a4, a5⟩, ⟨b0, b1, b2, b3, b4, b5, b6, b7⟩⟩ := HT.out _ HW4.out)
  have hTw := twin_calls w4 (HMn.out _ hb4.1) (Nat.le_trans HBw.out hb4.1.size) ⟨by have := HLen.out.1.1; omega, by have := HLen.out.1.2.1; omega, by have := HLen.out.1.2.2.1; omega⟩
  clear HX2 HFd2 HW2 HW3 hb3 hb5 hb2 hb3' s0 s1 s2 s3 s4 s5 t0 t1 t2 t3 t4 t5 t6 t7 l0 l1 l2 l3 l4 l5 l6 l7 a0 a1 a2 a3 a4 a5 b0 b1 b2 b3 b4 b5 b6 b7 HLv
  have HTw := Lib.hid hTw
  have hlm := HMn.out w (Below.refl _ _)
  have HXO := Lib.hid (appM_lens (m := m) (d := d) hlm.ok (HEd.out w (Below.refl _ _)).ok)
  have HMl : Hid (m.E.length ≤ 17592186044416 ∧ m.M.length ≤ 17592186044416 ∧ m.O.length ≤ 17592186044416 ∧ ∀ x ∈ m.E, x.Ok) := Lib.hid ⟨hlm.le, hlm.lm, hlm.lo, hlm.ok⟩
  have HNa : Hid (d.add.length ≤ 1000000) := Lib.hid (by have := HLen.out.2.2.1; omega)
  clear hTw hlm HLen
  refine HTw.out.mono ?_
  rintro e w5 ⟨pz, rfl, hmo, hb5⟩
  obtain ⟨ZE, zE, ZM, zM, ZO, zO⟩ := pz
  have hmO := hmo.man HMl.out.1 HMl.out.2.1 HMl.out.2.2.1 HMl.out.2.2.2
  have hW5 : Below (w.heap.size + 2) wm w5 := HW4.out.trans (hb5.mono hb4.2)
  have hs5 := (HB0.out _ hW5).2
  have HMO := Lib.hid fun W (hW : Below w5.heap.size w5 W) => hmO.below hW
  have HW6 : Hid (∀ W, Below (w5.heap.size + 1) (w5.alloc (.cells #[.int .i64 m.gen, .int .i64 m.cut, .int .i64 m.fence, .slice ZE m.E.length zE, .slice ZM m.M.length zM, .slice ZO m.O.length zO] 26)) W → Below (w.heap.size + 2) wm W ∧ Below w5.heap.size w5 W ∧ w5.heap.size + 1 ≤ W.heap.size) := Lib.hid fun W hW => by
    have h1 : Below w5.heap.size w5 W := ((Below.refl w5.heap.size w5).alloc (Nat.le_refl _) _).trans (hW.mono (by omega))
    exact ⟨hW5.trans (h1.mono hs5), h1, by have := hW.size; simp at this; omega⟩
  have HTO : Hid (∀ W, Below (w5.heap.size + 1) (w5.alloc (.cells #[.int .i64 m.gen, .int .i64 m.cut, .int .i64 m.fence, .slice ZE m.E.length zE, .slice ZM m.M.length zM, .slice ZO m.O.length zO] 26)) W → W.cell? ⟨w5.heap.size, 0, none⟩ = some (.int .i64 m.gen) ∧ W.cell? ⟨w5.heap.size, 1, none⟩ = some (.int .i64 m.cut) ∧ W.cell? ⟨w5.heap.size, 2, none⟩ = some (.int .i64 m.fence) ∧ W.cell? ⟨w5.heap.size, 3, none⟩ = some (.slice ZE m.E.length zE) ∧ W.cell? ⟨w5.heap.size, 4, none⟩ = some (.slice ZM m.M.length zM) ∧ W.cell? ⟨w5.heap.size, 5, none⟩ = some (.slice ZO m.O.length zO)) := Lib.hid fun W hW => by
    have h1 := (Blk.new w5 26 #[.int .i64 m.gen, .int .i64 m.cut, .int .i64 m.fence, .slice ZE m.E.length zE, .slice ZM m.M.length zM, .slice ZO m.O.length zO]).below hW (by omega)
    exact ⟨h1.cell 0, h1.cell 1, h1.cell 2, h1.cell 3, h1.cell 4, h1.cell 5⟩
  have HW60 := Lib.hid (Below.refl (w5.heap.size + 1) (w5.alloc (.cells #[.int .i64 m.gen, .int .i64 m.cut, .int .i64 m.fence, .slice ZE m.E.length zE, .slice ZM m.M.length zM, .slice ZO m.O.length zO] 26)))
  have hs6 : (w5.alloc (.cells #[.int .i64 m.gen, .int .i64 m.cut, .int .i64 m.fence, .slice ZE m.E.length zE, .slice ZM m.M.length zM, .slice ZO m.O.length zO] 26)).heap.size = w5.heap.size + 1 := by simp
  have hg5 : w.heap.size + 1 < w5.heap.size := by omega
  obtain ⟨-, ⟨t0, t1, t2, t3, t4, t5, t6, t7⟩⟩ := HT.out _ hW5
  clear hmO hmo hb5 hW5 hb4 HW4 HMl HTw
  go_wp2_with fail
  clear t0 t1 t2 t3 t4 t5 t6 t7
  generalize w5.alloc (.cells #[.int .i64 m.gen, .int .i64 m.cut, .int .i64 m.fence, .slice ZE m.E.length zE, .slice ZM m.M.length zM, .slice ZO m.O.length zO] 26) = w6 at *
  have h6 := HW6.out _ HW60.out
  have hb06 := HB0.out _ h6.1
  have HAp := Lib.hid (apply_calls w6 ((HMO.out _ h6.2.1).more (show w5.heap.size ≤ w6.heap.size by omega)) ((HEd.out _ hb06.1).more (Nat.le_trans HBw.out hb06.1.size)) (Nat.le_refl _) HSE.out HSD.out (HSh.out _ hb06.1))
  have HRp := Lib.hid fun W (hW : Below w.heap.size w W) => applyR_calls W (HMn.out W hW) (HEd.out W hW) (Nat.le_trans HBw.out hW.size) HSE.out HSD.out HNa.out
  have n0 : (appE m d != appE m d) = false := nef rfl
  generalize appM m d = X at *
  generalize appE m d = er at *
  refine HAp.out.mono ?_
  rintro e w7 ⟨px, rfl, hmx, hb7⟩
  obtain ⟨XE, xE, XM, xM, XO, xO⟩ := px
  have hmX := hmx.man HXO.out.1 HXO.out.2.1 HXO.out.2.2.1 HXO.out.2.2.2
  have HMX := Lib.hid fun W (hW : Below w7.heap.size w7 W) => hmX.below hW
  rw [hs6] at hmx hb7
  have HWE7 := Lib.hid (Wr.of_own hmx.oe)
  have HWM7 := Lib.hid (Wr.of_own hmx.om)
  have HW7 := Lib.hid hb7
  have hs7 : w5.heap.size + 1 ≤ w7.heap.size := by have := hb7.size; omega
  have HW8 : Hid (∀ W, Below (w7.heap.size + 1) (w7.alloc (.cells #[.int .i64 X.gen, .int .i64 X.cut, .int .i64 X.fence, .slice XE X.E.length xE, .slice XM X.M.length xM, .slice XO X.O.length xO] 26)) W → Below (w5.heap.size + 1) w6 W ∧ Below w7.heap.size w7 W ∧ w7.heap.size + 1 ≤ W.heap.size ∧ Blk W w7.heap.size 26 #[.int .i64 X.gen, .int .i64 X.cut, .int .i64 X.fence, .slice XE X.E.length xE, .slice XM X.M.length xM, .slice XO X.O.length xO]) := Lib.hid fun W hW => by
    have h1 : Below w7.heap.size w7 W := ((Below.refl w7.heap.size w7).alloc (Nat.le_refl _) _).trans (hW.mono (by omega))
    exact ⟨HW7.out.trans (h1.mono hs7), h1, by have := hW.size; simp at this; omega, (Blk.new w7 26 #[.int .i64 X.gen, .int .i64 X.cut, .int .i64 X.fence, .slice XE X.E.length xE, .slice XM X.M.length xM, .slice XO X.O.length xO]).below hW (by omega)⟩
  have HW80 := Lib.hid (Below.refl (w7.heap.size + 1) (w7.alloc (.cells #[.int .i64 X.gen, .int .i64 X.cut, .int .i64 X.fence, .slice XE X.E.length xE, .slice XM X.M.length xM, .slice XO X.O.length xO] 26)))
  have hs8 : (w7.alloc (.cells #[.int .i64 X.gen, .int .i64 X.cut, .int .i64 X.fence, .slice XE X.E.length xE, .slice XM X.M.length xM, .slice XO X.O.length xO] 26)).heap.size = w7.heap.size + 1 := by simp
  have h7 := HW6.out _ hb7
  obtain ⟨⟨s0, s1, s2, s3, s4, s5⟩, ⟨t0, t1, t2, t3, t4, t5, t6, t7⟩⟩ := HT.out _ h7.1
  have hg7 : w.heap.size + 1 < w7.heap.size := by omega
  have hg7b : w.heap.size < w7.heap.size := by omega
  clear hmX hmx hb7 HAp HW60 h6 hb06
  go_wp2_with fail
  clear s0 s1 s2 s3 s4 s5 t0 t1 t2 t3 t4 t5 t6 t7
  generalize w7.alloc (.cells #[.int .i64 X.gen, .int .i64 X.cut, .int .i64 X.fence, .slice XE X.E.length xE, .slice XM X.M.length xM, .slice XO X.O.length xO] 26) = w8 at *
  have h8 := HW8.out _ HW80.out
  refine (HRp.out _ (HB0.out _ (HW6.out _ h8.1).1).1).mono ?_
  rintro e w9 ⟨py, rfl, hmy, hb9⟩
  obtain ⟨YE, yE, YM, yM, YO, yO⟩ := py
  have hmY := hmy.man HXO.out.1 HXO.out.2.1 HXO.out.2.2.1 HXO.out.2.2.2
  rw [hs8] at hb9
  have h9 := HW8.out _ hb9
  have HBy0 := Lib.hid (Blk.new w9 26 #[.int .i64 X.gen, .int .i64 X.cut, .int .i64 X.fence, .slice YE X.E.length yE, .slice YM X.M.length yM, .slice YO X.O.length yO])
  have hb10 : Below w9.heap.size w9 (w9.alloc (.cells #[.int .i64 X.gen, .int .i64 X.cut, .int .i64 X.fence, .slice YE X.E.length yE, .slice YM X.M.length yM, .slice YO X.O.length yO] 26)) := (Below.refl _ _).alloc (Nat.le_refl _) _
  have HW10 : Hid (Below (w7.heap.size + 1) w8 (w9.alloc (.cells #[.int .i64 X.gen, .int .i64 X.cut, .int .i64 X.fence, .slice YE X.E.length yE, .slice YM X.M.length yM, .slice YO X.O.length yO] 26))) := Lib.hid (hb9.trans (hb10.mono h9.2.2.1))
  have HMY := Lib.hid (hmY.below hb10)
  have hs10 : (w9.alloc (.cells #[.int .i64 X.gen, .int .i64 X.cut, .int .i64 X.fence, .slice YE X.E.length yE, .slice YM X.M.length yM, .slice YO X.O.length yO] 26)).heap.size = w9.heap.size + 1 := by simp
  have hg9 : w7.heap.size < w9.heap.size := by omega
  have hBx9 := h9.2.2.2
  obtain ⟨s0, s1, s2, s3, s4, s5⟩ : w9.cell? ⟨w7.heap.size, 0, none⟩ = some (.int .i64 X.gen) ∧ w9.cell? ⟨w7.heap.size, 1, none⟩ = some (.int .i64 X.cut) ∧ w9.cell? ⟨w7.heap.size, 2, none⟩ = some (.int .i64 X.fence) ∧ w9.cell? ⟨w7.heap.size, 3, none⟩ = some (.slice XE X.E.length xE) ∧ w9.cell? ⟨w7.heap.size, 4, none⟩ = some (.slice XM X.M.length xM) ∧ w9.cell? ⟨w7.heap.size, 5, none⟩ = some (.slice XO X.O.length xO) := ⟨hBx9.cell 0, hBx9.cell 1, hBx9.cell 2, hBx9.cell 3, hBx9.cell 4, hBx9.cell 5⟩
  have HBx10 : Hid (Blk (w9.alloc (.cells #[.int .i64 X.gen, .int .i64 X.cut, .int .i64 X.fence, .slice YE X.E.length yE, .slice YM X.M.length yM, .slice YO X.O.length yO] 26)) w7.heap.size 26 #[.int .i64 X.gen, .int .i64 X.cut, .int .i64 X.fence, .slice XE X.E.length xE, .slice XM X.M.length xM, .slice XO X.O.length xO]) := Lib.hid (hBx9.alloc _)
  have HEQ := Lib.hid (same_self X)
  have HEQm := Lib.hid (same_self m)
  clear hmY hmy hb9 hBx9 h7 h8 HRp HEd HW80
  go_wp2_with fail
  clear s0 s1 s2 s3 s4 s5
  generalize w9.alloc (.cells #[.int .i64 X.gen, .int .i64 X.cut, .int .i64 X.fence, .slice YE X.E.length yE, .slice YM X.M.length yM, .slice YO X.O.length yO] 26) = w10 at *
  have h10 := HW8.out _ HW10.out
  refine (sameM_calls w10 (HMX.out _ h10.2.1) HMY.out (by omega) (by omega)).mono ?_
  rintro e w11 ⟨rfl, hb11⟩
  have HW11 : Hid (Below (w7.heap.size + 1) w8 w11) := Lib.hid (HW10.out.trans (hb11.mono h10.2.2.1))
  have h11 := HW8.out _ HW11.out
  have HO11 := HTO.out _ h11.1
  obtain ⟨o0, o1, o2, o3, o4, o5⟩ := HO11
  obtain ⟨⟨s0, s1, s2, s3, s4, s5⟩, -⟩ := HT.out _ (HW6.out _ h11.1).1
  rw [HEQ.out]
  clear hb11 h10 HW10 HMY hb10 HBx10 HBy0
  go_wp2_with fail
  have hb0 := (HB0.out _ (HW6.out _ h11.1).1).1
  refine (sameM_calls w11 (HMO.out _ (HW6.out _ h11.1).2.1) (HMn.out _ hb0) (by have := (HW6.out _ h11.1).2.2; omega) (Nat.le_trans HBw.out hb0.size)).mono ?_
  rintro e w12 ⟨rfl, hb12⟩
  have HW12 : Hid (Below (w7.heap.size + 1) w8 w12) := Lib.hid (HW11.out.trans (hb12.mono h11.2.2.1))
  have h12 := HW8.out _ HW12.out
  have HW := Lib.hid h12.1
  have HWE := Lib.hid (HWE7.out.below h12.2.1)
  have HWM := Lib.hid (HWM7.out.below h12.2.1)
  have HBx := Lib.hid h12.2.2.2
  have cx3 : w12.cell? ⟨w7.heap.size, 3, none⟩ = some (.slice XE X.E.length xE) := HBx.out.cell 3
  have hlX : X.E.length ≤ 17592186044416 := HXO.out.1
  have hlXM : X.M.length ≤ 17592186044416 := HXO.out.2.1
  rw [HEQm.out]
  clear hb12 h11 h12 HW11 HW12 hb0 o0 o1 o2 o3 o4 o5 s0 s1 s2 s3 s4 s5 HWE7 HWM7 HW8 HMX HEQ HXO HW7
  go_wp2
  clear cx3
  go_loopw [57] (fun i wr => ∃ j : Nat, j ≤ X.E.length ∧ i = .int .i64 (j : Int) ∧ Hid (Below (w5.heap.size + 1) w6 wr) ∧ Hid (Wr wr (w5.heap.size + 1) w7.heap.size 42 9 XE X.E.length) ∧ Hid (Wr wr (w5.heap.size + 1) w7.heap.size 44 2 XM X.M.length) ∧ Hid (Blk wr w7.heap.size 26 #[.int .i64 X.gen, .int .i64 X.cut, .int .i64 X.fence, .slice XE X.E.length xE, .slice XM X.M.length xM, .slice XO X.O.length xO])) (fun i _ => X.E.length - (intOf i).toNat)
  case atStart => exact ⟨0, Nat.zero_le _, rfl, HW, HWE, HWM, HBx⟩
  case round =>
    clear HW HWE HWM HBx
    obtain ⟨j, hj, rfl, HW, HWE, HWM, HBx⟩ := hrel
    by_cases hlt : j < X.E.length
    · obtain ⟨g, cur, rfl, hg1, hg2, hgB, hgs⟩ := HWE.out (by omega)
      have hix : j * 9 + 5 < cur.size := by omega
      have hc : wr.cell? ⟨g, j * 9 + 5, none⟩ = some cur[j * 9 + 5] := by rw [hgB.cell, Array.getElem?_eq_getElem hix]
      have hfz := hgB.frozen (j * 9 + 5)
      have cx : wr.cell? ⟨w7.heap.size, 3, none⟩ = some (.slice (some ⟨g, 0, none⟩) X.E.length xE) := HBx.out.cell 3
      generalize cur[j * 9 + 5] = v0 at *
      have HW2 : Hid (Below (w5.heap.size + 1) w6 (wr.setCell ⟨g, j * 9 + 5, none⟩ (.int .i64 (-1)))) := Lib.hid (HW.out.setCell hg1 _)
      have HWE2 := Lib.hid (HWE.out.set g (j * 9 + 5) (.int .i64 (-1)))
      have HWM2 := Lib.hid (HWM.out.set g (j * 9 + 5) (.int .i64 (-1)))
      have HBx2 := Lib.hid (HBx.out.far (p := ⟨g, j * 9 + 5, none⟩) (by show w7.heap.size ≠ g; omega) (.int .i64 (-1)))
      go_wp2
      go_roundw
      case rel => exact ⟨j + 1, by omega, by go_num, HW2, HWE2, HWM2, HBx2⟩
      case measure => simp [intOf]; omega
    obtain rfl : j = X.E.length := by omega
    have cx4 : wr.cell? ⟨w7.heap.size, 4, none⟩ = some (.slice XM X.M.length xM) := HBx.out.cell 4
    go_wp2
    clear cx4
    go_loopw [69] (fun i wr => ∃ j : Nat, j ≤ X.M.length ∧ i = .int .i64 (j : Int) ∧ Hid (Below (w5.heap.size + 1) w6 wr) ∧ Hid (Wr wr (w5.heap.size + 1) w7.heap.size 42 9 XE X.E.length) ∧ Hid (Wr wr (w5.heap.size + 1) w7.heap.size 44 2 XM X.M.length) ∧ Hid (Blk wr w7.heap.size 26 #[.int .i64 X.gen, .int .i64 X.cut, .int .i64 X.fence, .slice XE X.E.length xE, .slice XM X.M.length xM, .slice XO X.O.length xO])) (fun i _ => X.M.length - (intOf i).toNat)
    case atStart => exact ⟨0, Nat.zero_le _, rfl, HW, HWE, HWM, HBx⟩
    case round =>
      clear HW HWE HWM HBx
      obtain ⟨j, hj, rfl, HW, HWE, HWM, HBx⟩ := hrel
      by_cases hlt : j < X.M.length
      · obtain ⟨g, cur, rfl, hg1, hg2, hgB, hgs⟩ := HWM.out (by omega)
        have hix : j * 2 + 1 < cur.size := by omega
        have hc : wr.cell? ⟨g, j * 2 + 1, none⟩ = some cur[j * 2 + 1] := by rw [hgB.cell, Array.getElem?_eq_getElem hix]
        have hfz := hgB.frozen (j * 2 + 1)
        have cx : wr.cell? ⟨w7.heap.size, 4, none⟩ = some (.slice (some ⟨g, 0, none⟩) X.M.length xM) := HBx.out.cell 4
        generalize cur[j * 2 + 1] = v0 at *
        have HW2 : Hid (Below (w5.heap.size + 1) w6 (wr.setCell ⟨g, j * 2 + 1, none⟩ (.int .i64 (-1)))) := Lib.hid (HW.out.setCell hg1 _)
        have HWE2 := Lib.hid (HWE.out.set g (j * 2 + 1) (.int .i64 (-1)))
        have HWM2 := Lib.hid (HWM.out.set g (j * 2 + 1) (.int .i64 (-1)))
        have HBx2 := Lib.hid (HBx.out.far (p := ⟨g, j * 2 + 1, none⟩) (by show w7.heap.size ≠ g; omega) (.int .i64 (-1)))
        go_wp2
        go_roundw
        case rel => exact ⟨j + 1, by omega, by go_num, HW2, HWE2, HWM2, HBx2⟩
        case measure => simp [intOf]; omega
      obtain rfl : j = X.M.length := by omega
      have h13 := HW6.out _ HW.out
      obtain ⟨o0, o1, o2, o3, o4, o5⟩ := HTO.out _ HW.out
      obtain ⟨⟨s0, s1, s2, s3, s4, s5⟩, -⟩ := HT.out _ h13.1
      have hb0 := (HB0.out _ h13.1).1
      have HFin := Lib.hid (sameM_calls wr (HMO.out _ h13.2.1) (HMn.out _ hb0) (by have := h13.2.2; omega) (Nat.le_trans HBw.out hb0.size))
      clear HWE HWM HBx HW
      go_wp2_with fail
      refine HFin.out.mono ?_
      rintro e w14 ⟨rfl, hb14⟩
      rw [HEQm.out]
      have hbl := hb0.trans (hb14.mono hb0.size)
      clear hb14 h13 o0 o1 o2 o3 o4 o5 s0 s1 s2 s3 s4 s5
      go_wp2
      go_ret
      exact ⟨rfl, hbl⟩
theorem walk {H : Type} {enc : TypeId × Value → H} {W : World} {base : Nat} {v0 v1 : Value} {d0 d1 : DataW H} {p0 p1 : List MemPlace} (hsh : W.ShapedOpen Tryz.prog) (g0 : Arg enc Tryz.prog W base 26 v0 d0 p0) (g1 : Arg enc Tryz.prog W base 31 v1 d1 p1) :
    Calls Tryz.prog 3 #[v0, v1] W fun e w' => e = .returned (.bool true) ∧ Below W.heap.size W w' := by
  obtain ⟨m, p, rfl, hm⟩ := arg_man g0
  obtain ⟨x, q, rfl, hx⟩ := arg_edit g1
  exact body W hm hx (Nat.le_refl _) (var0 hsh)
end Go.Proofs.YtjbmlhipjceeeaaGreat.lawManifestApplies
