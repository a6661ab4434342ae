/- The walk of ManifestRises. -/
import Derived.Test.YtjbmlhipjceeeaaProg
import Derived.Test.YtjbmlhipjceeeaaMfY
import Derived.Test.YtjbmlhipjceeeaaMfZ
namespace Go.Proofs.Ytjbmlhipjceeeaa.lawManifestRises
open Go.RowKit Go.Proofs.Ytjbmlhipjceeeaa Go.Proofs.Ytjbmlhipjceeeaa.Mf

set_option maxRecDepth 100000 in
set_option maxHeartbeats 12800000 in
theorem body (w : World) {B : Nat} {m : Md} {p : Pl} {d : Ed} {q : Pd} (h : Man w B m p) (hd : Edi w B d q) (hB : B ≤ w.heap.size) (hm : Sh w) :
    Calls Try.prog 5 #[mdV m p, edV d q] w fun e w' => e = .returned (.bool true) ∧ Below w.heap.size w w' := by
  have HT := Lib.hid fun W => wm2_at w m p d q (W := W)
  have HB0 := Lib.hid fun W => wm2_below w m p d q (W := W)
  have HLv := Lib.hid fun W (hW : Below w.heap.size w W) => lives_calls W (hm.below hW hm.lt)
  have HFw := Lib.hid fun W (hW : Below w.heap.size w W) => few_calls W (h.below (hW.mono hB)) (by have := hW.size; omega)
  have HFd := Lib.hid fun W (hW : Below w.heap.size w W) => fewD_calls W (hd.below (hW.mono hB)) (by have := hW.size; omega)
  have HMn := Lib.hid fun W (hW : Below w.heap.size w W) => h.below (hW.mono hB)
  have HEd := Lib.hid fun W (hW : Below w.heap.size w W) => hd.below (hW.mono hB)
  have HSh := Lib.hid fun W (hW : Below w.heap.size w W) => hm.below hW hm.lt
  have HBw := Lib.hid hB
  have HWm : Hid (wm2 w m p d q = (w.alloc (.cells #[.int .i64 m.gen, .int .i64 m.cut, .int .i64 m.fence, .slice p.AE m.E.length p.cE, .slice p.AM m.M.length p.cM, .slice p.AO m.O.length p.cO] 26)).alloc (.cells #[.slice q.AA d.add.length q.cA, .slice q.AD d.drop.length q.cD, .slice q.AM d.marks.length q.cM, .int .i64 d.cut, .int .i64 d.fence, .int .i64 d.by_.agent, .int .i64 d.by_.life, .int .i64 d.by_.count] 31)) := Lib.hid rfl
  clear h hd hm hB
  obtain ⟨AE, cE, AM, cM, AO, cO⟩ := p
  obtain ⟨DA, c1, DD, c2, DM, c3⟩ := q
  dsimp only at *
  have HW1 := Lib.hid (Below.refl (w.heap.size + 2) (wm2 w m ⟨AE, cE, AM, cM, AO, cO⟩ d ⟨DA, c1, DD, c2, DM, c3⟩))
  go_enter Try.func5, Try.ntmps5
  go_wp2_with fail
  rw [← HWm.out]
  clear HWm
  generalize wm2 w m ⟨AE, cE, AM, cM, AO, cO⟩ d ⟨DA, c1, DD, c2, DM, c3⟩ = wm at *
  have hb0 := HB0.out _ HW1.out
  refine (HLv.out _ hb0.1).mono ?_
  rintro e w1 ⟨rfl, hb1⟩
  have HW2 : Hid (Below (w.heap.size + 2) wm w1) := Lib.hid (hb1.mono hb0.2)
  have hb2 := HB0.out _ HW2.out
  obtain ⟨⟨s0, s1, s2, s3, s4, s5⟩, ⟨t0, t1, t2, t3, t4, t5, t6, t7⟩⟩ := HT.out _ HW2.out
  clear hb1 HW1 hb0
  cases hf : fewB m
  · have HX := HFw.out _ hb2.1
    rw [hf] at HX
    have HX2 := Lib.hid HX
    clear HX hf
    go_wp2_with (go_at_call 7; refine HX2.out.mono ?_; rintro e w3 ⟨rfl, hb3⟩)
    have hb4 := hb2.1.trans (hb3.mono hb2.1.size)
    refine (HLv.out _ hb4).mono ?_
    rintro e w5 ⟨rfl, hb5⟩
    go_wp2
    go_ret
    exact ⟨rfl, hb4.trans (hb5.mono hb4.size)⟩
  have HX := HFw.out _ hb2.1
  rw [hf] at HX
  have HX2 := Lib.hid HX
  clear HX
  cases hfd : fewD d
  · have HFd2 : Hid (∀ W, Below w.heap.size w W → Calls Try.prog 8 #[edV d ⟨DA, c1, DD, c2, DM, c3⟩] W fun e w' => e = .returned (.bool false) ∧ Below W.heap.size W w') := Lib.hid fun W hW => by have := HFd.out W hW; rw [hfd] at this; exact this
    clear hf hfd
    go_wp2_with first | (go_at_call 7; refine HX2.out.mono ?_; rintro e w3 ⟨rfl, hb3⟩; have HW3 : Hid (Below (w.heap.size + 2) wm w3) := Lib.hid (HW2.out.trans (hb3.mono hb2.2)); have hb3' := HB0.out _ HW3.out; obtain ⟨-, ⟨l0, l1, l2, l3, l4, l5, l6, l7⟩⟩ := HT.out _ HW3.out) | (go_at_call 8; refine (HFd2.out _ hb3'.1).mono ?_; rintro e w4 ⟨rfl, hb5⟩)
    have hb6 := hb3'.1.trans (hb5.mono hb3'.1.size)
    refine (HLv.out _ hb6).mono ?_
    rintro e w5 ⟨rfl, hb7⟩
    go_wp2
    go_ret
    exact ⟨rfl, hb6.trans (hb7.mono hb6.size)⟩
  have HFd2 : Hid (∀ W, Below w.heap.size w W → Calls Try.prog 8 #[edV d ⟨DA, c1, DD, c2, DM, c3⟩] W fun e w' => e = .returned (.bool true) ∧ Below W.heap.size W w') := Lib.hid fun W hW => by have := HFd.out W hW; rw [hfd] at this; exact this
  have HSE : Hid (Short m.E) := Lib.hid fun x hx => by have := (few_f hf).2.2.2 x hx; omega
  have HSD : Hid (Short d.add) := Lib.hid fun x hx => by have := (fewD_f hfd).2.2.2 x hx; omega
  clear hf hfd HFw HFd
  go_wp2_with first | (go_at_call 7; refine HX2.out.mono ?_; rintro e w3 ⟨rfl, hb3⟩; have HW3 : Hid (Below (w.heap.size + 2) wm w3) := Lib.hid (HW2.out.trans (hb3.mono hb2.2)); have hb3' := HB0.out _ HW3.out; obtain ⟨-, ⟨l0, l1, l2, l3, l4, l5, l6, l7⟩⟩ := HT.out _ HW3.out) | (go_at_call 8; refine (HFd2.out _ hb3'.1).mono ?_; rintro e w4 ⟨rfl, hb5⟩; have HW4 : Hid (Below (w.heap.size + 2) wm w4) := Lib.hid (HW3.out.trans (hb5.mono hb3'.2)); have hb4 := HB0.out _ HW4.out; obtain ⟨⟨a0, a1, a2, a3, a4, a5⟩, ⟨b0, b1, b2, b3, b4, b5, b6, b7⟩⟩ := HT.out _ HW4.out)
  have hAp := apply_calls w4 (HMn.out _ hb4.1) (HEd.out _ hb4.1) (Nat.le_trans HBw.out hb4.1.size) HSE.out HSD.out (HSh.out _ hb4.1)
  clear HX2 HFd2 HW2 HW3 hb3 hb5 hb2 hb3' s0 s1 s2 s3 s4 s5 t0 t1 t2 t3 t4 t5 t6 t7 l0 l1 l2 l3 l4 l5 l6 l7 a0 a1 a2 a3 a4 a5 b0 b1 b2 b3 b4 b5 b6 b7 HLv
  by_cases h0 : appE m d = 0
  · rw [appM_ok h0, h0] at hAp
    have HAp := Lib.hid hAp
    have hF := (appE_zero.1 h0).1.f
    have hl := (appE_zero.1 h0).2
    have HXR : Hid (rightB (appl m d) = true) := Lib.hid (right_iff.2 (hF.right hl))
    have HX0 : Hid ((appl m d).gen = m.gen + 1) := Lib.hid rfl
    have hgn := hF.r.gen
    have HX1 : Hid (m.cut ≤ (appl m d).cut ∧ d.cut ≤ (appl m d).cut) := Lib.hid ⟨maxI_l _ _, maxI_r _ _⟩
    have HX2 : Hid (m.fence ≤ (appl m d).fence ∧ d.fence ≤ (appl m d).fence) := Lib.hid ⟨maxI_l _ _, maxI_r _ _⟩
    have HX3 := Lib.hid (rise_did hF)
    have HX4 := Lib.hid fun k hk => rise_mark hF (k := k) hk
    have HX5 : Hid (∀ a ∈ d.add, (appl m d).E.find? (keyIs a.key) = if (appl m d).cut ≤ a.window then some a else none) := Lib.hid fun a ha => rise_find hF ha
    have HX6 : Hid (∀ a ∈ d.add, (appl m d).fence ≤ a.born) := Lib.hid fun a ha => rise_fence hF ha
    have HX7 := Lib.hid (rise_again hF hl)
    have HXS : Hid (Short (appl m d).E) := Lib.hid fun x hx => by
      rcases (ents_mem.1 hx).1 with h1 | h1
      · exact HSD.out x h1
      · exact HSE.out x h1.1
    have HXO : Hid ((∀ x ∈ (appl m d).E, x.Ok) ∧ (appl m d).E.length ≤ 17592186044416 ∧ (appl m d).M.length ≤ 17592186044416 ∧ (appl m d).O.length ≤ 17592186044416) := Lib.hid ⟨fun x hx => by
      rcases (ents_mem.1 hx).1 with h1 | h1
      · exact (HEd.out w (Below.refl _ _)).ok x h1
      · exact (HMn.out w (Below.refl _ _)).ok x h1.1, Nat.le_trans hl (by omega), by
        have := srt_len (l := (appl m d).M) (a := 1) (b := 64) (hF.right hl).srtM (fun x hx => (mk_in ((hF.right hl).mkM x hx)).1) (by omega)
        omega, by
        have := srt_len (l := (appl m d).O) (a := 1) (b := 8) (hF.right hl).srtO (fun x hx => (ow_in ((hF.right hl).owO x hx)).1) (by omega)
        omega⟩
    clear hAp h0 hF hl
    generalize appl m d = X at *
    refine HAp.out.mono ?_
    rintro e w5 ⟨pz, rfl, hmo, hb5⟩
    obtain ⟨XE, xE, XM, xM, XO, xO⟩ := pz
    have hmX := hmo.man HXO.out.2.1 HXO.out.2.2.1 HXO.out.2.2.2 HXO.out.1
    have hW5 : Below (w.heap.size + 2) wm w5 := HW4.out.trans (hb5.mono hb4.2)
    have hs5 := (HB0.out _ hW5).2
    have HMX := Lib.hid fun W (hW : Below w5.heap.size w5 W) => hmX.below hW
    have HW6 : Hid (∀ W, Below (w5.heap.size + 1) (w5.alloc (.cells #[.int .i64 X.gen, .int .i64 X.cut, .int .i64 X.fence, .slice XE X.E.length xE, .slice XM X.M.length xM, .slice XO X.O.length xO] 26)) W → Below (w.heap.size + 2) wm W ∧ Below w5.heap.size w5 W ∧ w5.heap.size + 1 ≤ W.heap.size) := Lib.hid fun W hW => by
      have h1 : Below w5.heap.size w5 W := ((Below.refl w5.heap.size w5).alloc (Nat.le_refl _) _).trans (hW.mono (by omega))
      exact ⟨hW5.trans (h1.mono hs5), h1, by have := hW.size; simp at this; omega⟩
    have HTX : Hid (∀ W, Below (w5.heap.size + 1) (w5.alloc (.cells #[.int .i64 X.gen, .int .i64 X.cut, .int .i64 X.fence, .slice XE X.E.length xE, .slice XM X.M.length xM, .slice XO X.O.length xO] 26)) W → W.cell? ⟨w5.heap.size, 0, none⟩ = some (.int .i64 X.gen) ∧ W.cell? ⟨w5.heap.size, 1, none⟩ = some (.int .i64 X.cut) ∧ W.cell? ⟨w5.heap.size, 2, none⟩ = some (.int .i64 X.fence) ∧ W.cell? ⟨w5.heap.size, 3, none⟩ = some (.slice XE X.E.length xE) ∧ W.cell? ⟨w5.heap.size, 4, none⟩ = some (.slice XM X.M.length xM) ∧ W.cell? ⟨w5.heap.size, 5, none⟩ = some (.slice XO X.O.length xO)) := Lib.hid fun W hW => by
      have h1 := (Blk.new w5 26 #[.int .i64 X.gen, .int .i64 X.cut, .int .i64 X.fence, .slice XE X.E.length xE, .slice XM X.M.length xM, .slice XO X.O.length xO]).below hW (by omega)
      exact ⟨h1.cell 0, h1.cell 1, h1.cell 2, h1.cell 3, h1.cell 4, h1.cell 5⟩
    have n1 : IntKind.i64.wrap (m.gen + 1) = m.gen + 1 := IntWalk.i64_in _ (by omega)
    have f1 : (X.gen != m.gen + 1) = false := nef HX0.out
    have f2 : decide (X.cut < m.cut) = false := dcf (by have := HX1.out; omega)
    have f3 : decide (X.cut < d.cut) = false := dcf (by have := HX1.out; omega)
    have f4 : decide (X.fence < m.fence) = false := dcf (by have := HX2.out; omega)
    have f5 : decide (X.fence < d.fence) = false := dcf (by have := HX2.out; omega)
    have HRt : Hid (∀ W, Below w5.heap.size w5 W → Below w.heap.size w W → Calls Try.prog 17 #[mdV X ⟨XE, xE, XM, xM, XO, xO⟩] W fun e w' => e = .returned (.bool true) ∧ Below W.heap.size W w') := Lib.hid fun W hW hw => by
      have := right_calls W (HMX.out W hW) hW.size HXS.out (HSh.out W hw)
      rw [HXR.out] at this
      exact this
    have HDi : Hid (∀ W, Below w5.heap.size w5 W → Calls Try.prog 15 #[mdV X ⟨XE, xE, XM, xM, XO, xO⟩, owV d.by_] W fun e w' => e = .returned (.bool true) ∧ Below W.heap.size W w') := Lib.hid fun W hW => by
      have := did_of W (HMX.out W hW) hW.size d.by_
      rw [HX3.out] at this
      exact this
    have HMk := Lib.hid fun W (hW : Below w5.heap.size w5 W) k => mark_of W (HMX.out W hW) hW.size k
    have HFi := Lib.hid fun W (hW : Below w5.heap.size w5 W) k => find_of W (HMX.out W hW) hW.size k
    have HA2 : Hid (∀ W, Below w5.heap.size w5 W → Below w.heap.size w W → Calls Try.prog 9 #[mdV X ⟨XE, xE, XM, xM, XO, xO⟩, edV d ⟨DA, c1, DD, c2, DM, c3⟩] W (RetAp W (appM X d) 8)) := Lib.hid fun W hW hw => by
      have := apply_calls W ((HMX.out W hW).more hW.size) ((HEd.out W hw).more (Nat.le_trans HBw.out hw.size)) (Nat.le_refl _) HXS.out HSD.out (HSh.out W hw)
      rw [HX7.out] at this
      exact this
    have HRM := Lib.hid fun W (hW : Below w.heap.size w W) => (HMn.out W hW).rm
    have HRA := Lib.hid fun W (hW : Below w.heap.size w W) => (HEd.out W hW).ra
    have hlm := (HMn.out w (Below.refl _ _)).lm
    have hla := (HEd.out w (Below.refl _ _)).la
    have HW60 := Lib.hid (Below.refl (w5.heap.size + 1) (w5.alloc (.cells #[.int .i64 X.gen, .int .i64 X.cut, .int .i64 X.fence, .slice XE X.E.length xE, .slice XM X.M.length xM, .slice XO X.O.length xO] 26)))
    clear hmX hW5 hb5 hmo HAp HX0 HX1 HX2 HX3 HXR HXO HSE
    go_wp2_with fail
    generalize w5.alloc (.cells #[.int .i64 X.gen, .int .i64 X.cut, .int .i64 X.fence, .slice XE X.E.length xE, .slice XM X.M.length xM, .slice XO X.O.length xO] 26) = w6 at *
    have h6 := HW6.out _ HW60.out
    refine (HRt.out _ h6.2.1 (HB0.out _ h6.1).1).mono ?_
    rintro e w7 ⟨rfl, hb7⟩
    have HW7 : Hid (Below (w5.heap.size + 1) w6 w7) := Lib.hid (hb7.mono h6.2.2)
    have h7 := HW6.out _ HW7.out
    obtain ⟨⟨s0, s1, s2, s3, s4, s5⟩, ⟨t0, t1, t2, t3, t4, t5, t6, t7⟩⟩ := HT.out _ h7.1
    obtain ⟨z0, z1, z2, z3, z4, z5⟩ := HTX.out _ HW7.out
    have HDi2 := Lib.hid (HDi.out _ h7.2.1)
    clear hb7 HW60 h6 HRt HDi
    go_wp2_with (go_at_call 15; refine HDi2.out.mono ?_; rintro e w8 ⟨rfl, hb8⟩; have HW8 : Hid (Below (w5.heap.size + 1) w6 w8) := Lib.hid (HW7.out.trans (hb8.mono h7.2.2)); obtain ⟨⟨a0, a1, a2, a3, a4, a5⟩, -⟩ := HT.out _ (HW6.out _ HW8.out).1)
    clear HDi2 HW7 h7 hb8 s0 s1 s2 s3 s4 s5 t0 t1 t2 t3 t4 t5 t6 t7 z0 z1 z2 z3 z4 z5 f1 f2 f3 f4 f5 n1 a0 a1 a2 a3 a4 a5
    go_loopw [94] (fun i wr => ∃ j : Nat, j ≤ m.M.length ∧ i = .int .i64 (j : Int) ∧ Hid (Below (w5.heap.size + 1) w6 wr)) (fun i _ => m.M.length - (intOf i).toNat)
    case atStart => exact ⟨0, Nat.zero_le _, rfl, HW8⟩
    case round =>
      clear HW8
      obtain ⟨j, hj, rfl, HW⟩ := hrel
      have h7 := HW6.out _ HW.out
      have hb00 := (HB0.out _ h7.1).1
      obtain ⟨z0, z1, z2, z3, z4, z5⟩ := HTX.out _ HW.out
      by_cases hlt : j < m.M.length
      · have hr := HRM.out wr hb00
        obtain ⟨b, off, rfl, hbB⟩ := row_addr hr (by omega)
        obtain ⟨p0, p1⟩ : wr.cell? ⟨b, off + j * 2, none⟩ = some (.int .i64 (gt m.M j).maker) ∧ wr.cell? ⟨b, off + j * 2 + 1, none⟩ = some (.int .i64 (gt m.M j).seq) := ⟨row_cell mcs_len hr hlt (j := 0) rfl, row_cell mcs_len hr hlt (j := 1) rfl⟩
        have HB1 := Lib.hid ((Below.refl wr.heap.size wr).alloc (Nat.le_refl _) (.cells #[.int .i64 (gt m.M j).maker, .int .i64 (gt m.M j).seq] 50))
        have HWW := Lib.hid fun W (hW : Below (wr.heap.size + 1) (wr.alloc (.cells #[.int .i64 (gt m.M j).maker, .int .i64 (gt m.M j).seq] 50)) W) => HW.out.trans ((HB1.out.trans (hW.mono (by omega))).mono h7.2.2)
        have HBL : Hid (∀ W, Below (wr.heap.size + 1) (wr.alloc (.cells #[.int .i64 (gt m.M j).maker, .int .i64 (gt m.M j).seq] 50)) W → (W.cell? ⟨wr.heap.size, 0, none⟩ = some (.int .i64 (gt m.M j).maker) ∧ W.cell? ⟨wr.heap.size, 1, none⟩ = some (.int .i64 (gt m.M j).seq)) ∧ (W.cell? ⟨w5.heap.size, 0, none⟩ = some (.int .i64 X.gen) ∧ W.cell? ⟨w5.heap.size, 1, none⟩ = some (.int .i64 X.cut) ∧ W.cell? ⟨w5.heap.size, 2, none⟩ = some (.int .i64 X.fence) ∧ W.cell? ⟨w5.heap.size, 3, none⟩ = some (.slice XE X.E.length xE) ∧ W.cell? ⟨w5.heap.size, 4, none⟩ = some (.slice XM X.M.length xM) ∧ W.cell? ⟨w5.heap.size, 5, none⟩ = some (.slice XO X.O.length xO))) := Lib.hid fun W hW => by
          have hb := (Blk.new wr 50 #[.int .i64 (gt m.M j).maker, .int .i64 (gt m.M j).seq]).below hW (Nat.lt_succ_self _)
          exact ⟨⟨hb.cell 0, hb.cell 1⟩, HTX.out _ (HWW.out W hW)⟩
        have HC := Lib.hid fun W (hW : Below (wr.heap.size + 1) (wr.alloc (.cells #[.int .i64 (gt m.M j).maker, .int .i64 (gt m.M j).seq] 50)) W) => HMk.out W (HW6.out _ (HWW.out W hW)).2.1 (gt m.M j).maker
        have f0 : decide (seqL (gt m.M j).maker X.M < (gt m.M j).seq) = false := dcf (by have := HX4.out _ (gt_mem hlt); omega)
        clear hr
        generalize gt m.M j = x at *
        generalize seqL x.maker X.M = sq at *
        go_wp2_with fail
        refine wp_region_T 99 (fun w' => (w'.cell? ⟨wr.heap.size, 0, none⟩ = some (.int .i64 x.maker) ∧ w'.cell? ⟨wr.heap.size, 1, none⟩ = some (.int .i64 x.seq)) ∧ (w'.cell? ⟨w5.heap.size, 0, none⟩ = some (.int .i64 X.gen) ∧ w'.cell? ⟨w5.heap.size, 1, none⟩ = some (.int .i64 X.cut) ∧ w'.cell? ⟨w5.heap.size, 2, none⟩ = some (.int .i64 X.fence) ∧ w'.cell? ⟨w5.heap.size, 3, none⟩ = some (.slice XE X.E.length xE) ∧ w'.cell? ⟨w5.heap.size, 4, none⟩ = some (.slice XM X.M.length xM) ∧ w'.cell? ⟨w5.heap.size, 5, none⟩ = some (.slice XO X.O.length xO))) (by kernel_rfl) (HBL.out _ (below_drewN_ (Below.refl _ _) 1)) (fun hHeld => ?_)
        refine wpAnyT_take (i := 0) (oi := _) (v := ?_) rfl (by kernel_rfl) (fun _ _ _ h => h) (Or.inl ⟨by kernel_rfl, ?_⟩) (by assumption) ?_; rotate_left; (focus (intro w hSw; (try dsimp only at hSw); go_simp; (try with_reducible rfl))); (try simp only [Act.put, List.getElem_toArray, List.getElem_cons_zero, List.setIfInBounds_toArray, List.set_cons_zero, List.set_cons_succ])
        refine wpAnyT_take (i := 1) (oi := _) (v := ?_) rfl (by kernel_rfl) (fun _ _ _ h => h) (Or.inl ⟨by kernel_rfl, ?_⟩) (by assumption) ?_; rotate_left; (focus (intro w hSw; (try dsimp only at hSw); go_simp; (try with_reducible rfl))); (try simp only [Act.put, List.getElem_toArray, List.getElem_cons_zero, List.getElem_cons_succ, List.setIfInBounds_toArray, List.set_cons_zero, List.set_cons_succ])
        refine wpAnyT_take (i := 2) (oi := _) (v := ?_) rfl (by kernel_rfl) (fun _ _ _ h => h) (Or.inl ⟨by kernel_rfl, ?_⟩) (by assumption) ?_; rotate_left; (focus (intro w hSw; (try dsimp only at hSw); go_simp; (try with_reducible rfl))); (try simp only [Act.put, List.getElem_toArray, List.getElem_cons_zero, List.getElem_cons_succ, List.setIfInBounds_toArray, List.set_cons_zero, List.set_cons_succ])
        refine wpAnyT_take (i := 4) (oi := _) (v := ?_) rfl (by kernel_rfl) (fun _ _ _ h => h) (Or.inl ⟨by kernel_rfl, ?_⟩) (by assumption) ?_; rotate_left; (focus (intro w hSw; (try dsimp only at hSw); go_simp; (try with_reducible rfl))); (try simp only [Act.put, List.getElem_toArray, List.getElem_cons_zero, List.getElem_cons_succ, List.setIfInBounds_toArray, List.set_cons_zero, List.set_cons_succ])
        refine wpAnyT_take (i := 5) (oi := _) (v := ?_) rfl (by kernel_rfl) (fun _ _ _ h => h) (Or.inl ⟨by kernel_rfl, ?_⟩) (by assumption) ?_; rotate_left; (focus (intro w hSw; (try dsimp only at hSw); go_simp; (try with_reducible rfl))); (try simp only [Act.put, List.getElem_toArray, List.getElem_cons_zero, List.getElem_cons_succ, List.setIfInBounds_toArray, List.set_cons_zero, List.set_cons_succ])
        refine wpAnyT_one (i := 3) (by kernel_rfl) rfl (fun K hK => ?_); go_simp
        refine (HC.out _ (below_drewN_ (Below.refl _ _) 1)).mono ?_
        rintro e wa ⟨rfl, hba⟩
        have hea0 : Below (wr.heap.size + 1) (wr.alloc (.cells #[.int .i64 x.maker, .int .i64 x.seq] 50)) wa := (below_drewN_ (Below.refl _ _) 1).trans (hba.mono (by simp [World.drew]))
        have HE := Lib.hid (HWW.out _ hea0)
        have hHa := HBL.out _ hea0
        refine hK.out _ _ (fun _ => hHa) ?_
        clear hK K hHeld hba
        refine wpAnyT_take (i := 6) (oi := _) (v := ?_) rfl (by kernel_rfl) (fun _ _ _ h => h) (Or.inl ⟨by kernel_rfl, ?_⟩) (by assumption) ?_; rotate_left; (focus (intro w hSw; (try dsimp only at hSw); go_simp; (try with_reducible rfl))); (try simp only [Act.put, List.getElem_toArray, List.getElem_cons_zero, List.getElem_cons_succ, List.setIfInBounds_toArray, List.set_cons_zero, List.set_cons_succ])
        refine wpAnyT_done (by kernel_rfl) ?_ _
        go_wp2
        go_roundw
        case rel => exact ⟨j + 1, by omega, by go_num, HE⟩
        case measure => simp [intOf]; omega
      obtain rfl : j = m.M.length := by omega
      obtain ⟨-, ⟨t0, t1, t2, t3, t4, t5, t6, t7⟩⟩ := HT.out _ h7.1
      clear HX4 HMk HRM
      go_wp2
      go_loopw [109] (fun i wr => ∃ j : Nat, j ≤ d.add.length ∧ i = .int .i64 (j : Int) ∧ Hid (Below (w5.heap.size + 1) w6 wr)) (fun i _ => d.add.length - (intOf i).toNat)
      case atStart => exact ⟨0, Nat.zero_le _, rfl, HW⟩
      case round =>
        clear HW h7 hb00 z0 z1 z2 z3 z4 z5 t0 t1 t2 t3 t4 t5 t6 t7
        obtain ⟨j, hj, rfl, HW⟩ := hrel
        have h7 := HW6.out _ HW.out
        have hb00 := (HB0.out _ h7.1).1
        obtain ⟨z0, z1, z2, z3, z4, z5⟩ := HTX.out _ HW.out
        by_cases hlt : j < d.add.length
        · have hr := HRA.out wr hb00
          obtain ⟨b, off, rfl, hbB⟩ := row_addr hr (by omega)
          obtain ⟨p0, p1, p2, p3, p4, p5, p6, p7, p8⟩ : wr.cell? ⟨b, off + j * 9, none⟩ = some (.string (gt d.add j).key) ∧ wr.cell? ⟨b, off + j * 9 + 1, none⟩ = some (.int .i64 (gt d.add j).window) ∧ wr.cell? ⟨b, off + j * 9 + 2, none⟩ = some (.string (gt d.add j).part) ∧ wr.cell? ⟨b, off + j * 9 + 3, none⟩ = some (.int .i64 (gt d.add j).first) ∧ wr.cell? ⟨b, off + j * 9 + 4, none⟩ = some (.int .i64 (gt d.add j).last) ∧ wr.cell? ⟨b, off + j * 9 + 5, none⟩ = some (.int .i64 (gt d.add j).rows) ∧ wr.cell? ⟨b, off + j * 9 + 6, none⟩ = some (.int .i64 (gt d.add j).size) ∧ wr.cell? ⟨b, off + j * 9 + 7, none⟩ = some (.int .u32 (gt d.add j).sum) ∧ wr.cell? ⟨b, off + j * 9 + 8, none⟩ = some (.int .i64 (gt d.add j).born) := ⟨row_cell ecs_len hr hlt (j := 0) rfl, row_cell ecs_len hr hlt (j := 1) rfl, row_cell ecs_len hr hlt (j := 2) rfl, row_cell ecs_len hr hlt (j := 3) rfl, row_cell ecs_len hr hlt (j := 4) rfl, row_cell ecs_len hr hlt (j := 5) rfl, row_cell ecs_len hr hlt (j := 6) rfl, row_cell ecs_len hr hlt (j := 7) rfl, row_cell ecs_len hr hlt (j := 8) rfl⟩
          have HB1 := Lib.hid ((Below.refl wr.heap.size wr).alloc (Nat.le_refl _) (.cells #[.string (gt d.add j).key, .int .i64 (gt d.add j).window, .string (gt d.add j).part, .int .i64 (gt d.add j).first, .int .i64 (gt d.add j).last, .int .i64 (gt d.add j).rows, .int .i64 (gt d.add j).size, .int .u32 (gt d.add j).sum, .int .i64 (gt d.add j).born] 37))
          have HWW := Lib.hid fun W (hW : Below (wr.heap.size + 1) (wr.alloc (.cells #[.string (gt d.add j).key, .int .i64 (gt d.add j).window, .string (gt d.add j).part, .int .i64 (gt d.add j).first, .int .i64 (gt d.add j).last, .int .i64 (gt d.add j).rows, .int .i64 (gt d.add j).size, .int .u32 (gt d.add j).sum, .int .i64 (gt d.add j).born] 37)) W) => HW.out.trans ((HB1.out.trans (hW.mono (by omega))).mono h7.2.2)
          have HBL : Hid (∀ W, Below (wr.heap.size + 1) (wr.alloc (.cells #[.string (gt d.add j).key, .int .i64 (gt d.add j).window, .string (gt d.add j).part, .int .i64 (gt d.add j).first, .int .i64 (gt d.add j).last, .int .i64 (gt d.add j).rows, .int .i64 (gt d.add j).size, .int .u32 (gt d.add j).sum, .int .i64 (gt d.add j).born] 37)) W → W.cell? ⟨wr.heap.size, 0, none⟩ = some (.string (gt d.add j).key) ∧ W.cell? ⟨wr.heap.size, 1, none⟩ = some (.int .i64 (gt d.add j).window) ∧ W.cell? ⟨wr.heap.size, 2, none⟩ = some (.string (gt d.add j).part) ∧ W.cell? ⟨wr.heap.size, 3, none⟩ = some (.int .i64 (gt d.add j).first) ∧ W.cell? ⟨wr.heap.size, 4, none⟩ = some (.int .i64 (gt d.add j).last) ∧ W.cell? ⟨wr.heap.size, 5, none⟩ = some (.int .i64 (gt d.add j).rows) ∧ W.cell? ⟨wr.heap.size, 6, none⟩ = some (.int .i64 (gt d.add j).size) ∧ W.cell? ⟨wr.heap.size, 7, none⟩ = some (.int .u32 (gt d.add j).sum) ∧ W.cell? ⟨wr.heap.size, 8, none⟩ = some (.int .i64 (gt d.add j).born)) := Lib.hid fun W hW => by
            have hb := (Blk.new wr 37 #[.string (gt d.add j).key, .int .i64 (gt d.add j).window, .string (gt d.add j).part, .int .i64 (gt d.add j).first, .int .i64 (gt d.add j).last, .int .i64 (gt d.add j).rows, .int .i64 (gt d.add j).size, .int .u32 (gt d.add j).sum, .int .i64 (gt d.add j).born]).below hW (Nat.lt_succ_self _)
            exact ⟨hb.cell 0, hb.cell 1, hb.cell 2, hb.cell 3, hb.cell 4, hb.cell 5, hb.cell 6, hb.cell 7, hb.cell 8⟩
          have hg5 : w5.heap.size < wr.heap.size := h7.2.2
          have hF0 := HFi.out (wr.alloc (.cells #[.string (gt d.add j).key, .int .i64 (gt d.add j).window, .string (gt d.add j).part, .int .i64 (gt d.add j).first, .int .i64 (gt d.add j).last, .int .i64 (gt d.add j).rows, .int .i64 (gt d.add j).size, .int .u32 (gt d.add j).sum, .int .i64 (gt d.add j).born] 37)) (h7.2.1.trans (HB1.out.mono (by omega))) (gt d.add j).key
          rw [HX5.out _ (gt_mem hlt)] at hF0
          have f0 : decide ((gt d.add j).born < X.fence) = false := dcf (by have := HX6.out _ (gt_mem hlt); omega)
          clear hr
          generalize gt d.add j = x at *
          by_cases hc : X.cut ≤ x.window
          · rw [if_pos hc] at hF0
            have HF0 : Hid (Calls Try.prog 11 #[mdV X ⟨XE, xE, XM, xM, XO, xO⟩, .string x.key] (wr.alloc (.cells #[.string x.key, .int .i64 x.window, .string x.part, .int .i64 x.first, .int .i64 x.last, .int .i64 x.rows, .int .i64 x.size, .int .u32 x.sum, .int .i64 x.born] 37)) fun e w' => e = .returned (.tuple #[.agg #[.string x.key, .int .i64 x.window, .string x.part, .int .i64 x.first, .int .i64 x.last, .int .i64 x.rows, .int .i64 x.size, .int .u32 x.sum, .int .i64 x.born], .bool true]) ∧ Below (wr.heap.size + 1) (wr.alloc (.cells #[.string x.key, .int .i64 x.window, .string x.part, .int .i64 x.first, .int .i64 x.last, .int .i64 x.rows, .int .i64 x.size, .int .u32 x.sum, .int .i64 x.born] 37)) w') := Lib.hid (hF0.mono (by rintro e w' ⟨rfl, hb⟩; exact ⟨rfl, hb.mono (by simp)⟩))
            have f1 : decide (X.cut ≤ x.window) = true := dct hc
            have hq : ∀ W, (binOp .neq 37 (.agg #[.string x.key, .int .i64 x.window, .string x.part, .int .i64 x.first, .int .i64 x.last, .int .i64 x.rows, .int .i64 x.size, .int .u32 x.sum, .int .i64 x.born]) (.agg #[.string x.key, .int .i64 x.window, .string x.part, .int .i64 x.first, .int .i64 x.last, .int .i64 x.rows, .int .i64 x.size, .int .u32 x.sum, .int .i64 x.born])).run Try.prog W = .ok (.bool false) W := fun W => by rw [neq_en, dct rfl]; rfl
            clear hF0 hc
            go_wp2_with fail
            refine HF0.out.mono ?_
            rintro e w7 ⟨rfl, hb7⟩
            obtain ⟨v0, v1, v2, v3, v4, v5, v6, v7, v8⟩ := HBL.out _ hb7
            obtain ⟨y0, y1, y2, y3, y4, y5⟩ := HTX.out _ (HWW.out _ hb7)
            have h8 := HWW.out _ hb7
            have hg6 : w5.heap.size < w7.heap.size := (HW6.out _ h8).2.2
            have hg7 : wr.heap.size < w7.heap.size := by have := hb7.size; simp at this; omega
            have HE : Hid (Below (w5.heap.size + 1) w6 (w7.alloc (.cells #[.string x.key, .int .i64 x.window, .string x.part, .int .i64 x.first, .int .i64 x.last, .int .i64 x.rows, .int .i64 x.size, .int .u32 x.sum, .int .i64 x.born] 37))) := Lib.hid (h8.alloc (by omega) _)
            clear h8 hb7
            go_wp2
            go_roundw
            case rel => exact ⟨j + 1, by omega, by go_num, HE⟩
            case measure => simp [intOf]; omega
          · rw [if_neg hc] at hF0
            have HF0 : Hid (Calls Try.prog 11 #[mdV X ⟨XE, xE, XM, xM, XO, xO⟩, .string x.key] (wr.alloc (.cells #[.string x.key, .int .i64 x.window, .string x.part, .int .i64 x.first, .int .i64 x.last, .int .i64 x.rows, .int .i64 x.size, .int .u32 x.sum, .int .i64 x.born] 37)) fun e w' => e = .returned (.tuple #[.agg #[.string ⟨#[]⟩, .int .i64 0, .string ⟨#[]⟩, .int .i64 0, .int .i64 0, .int .i64 0, .int .i64 0, .int .u32 0, .int .i64 0], .bool false]) ∧ Below (wr.heap.size + 1) (wr.alloc (.cells #[.string x.key, .int .i64 x.window, .string x.part, .int .i64 x.first, .int .i64 x.last, .int .i64 x.rows, .int .i64 x.size, .int .u32 x.sum, .int .i64 x.born] 37)) w') := Lib.hid (hF0.mono (by rintro e w' ⟨rfl, hb⟩; exact ⟨rfl, hb.mono (by simp)⟩))
            have f1 : decide (X.cut ≤ x.window) = false := dcf hc
            clear hF0 hc
            go_wp2_with fail
            refine HF0.out.mono ?_
            rintro e w7 ⟨rfl, hb7⟩
            obtain ⟨v0, v1, v2, v3, v4, v5, v6, v7, v8⟩ := HBL.out _ hb7
            obtain ⟨y0, y1, y2, y3, y4, y5⟩ := HTX.out _ (HWW.out _ hb7)
            have h8 := HWW.out _ hb7
            have hg6 : w5.heap.size < w7.heap.size := (HW6.out _ h8).2.2
            have hg7 : wr.heap.size < w7.heap.size := by have := hb7.size; simp at this; omega
            have HE : Hid (Below (w5.heap.size + 1) w6 (w7.alloc (.cells #[.string ⟨#[]⟩, .int .i64 0, .string ⟨#[]⟩, .int .i64 0, .int .i64 0, .int .i64 0, .int .i64 0, .int .u32 0, .int .i64 0] 37))) := Lib.hid (h8.alloc (by omega) _)
            clear h8 hb7
            go_wp2
            go_roundw
            case rel => exact ⟨j + 1, by omega, by go_num, HE⟩
            case measure => simp [intOf]; omega
        obtain rfl : j = d.add.length := by omega
        obtain ⟨-, ⟨t0, t1, t2, t3, t4, t5, t6, t7⟩⟩ := HT.out _ h7.1
        have HA3 := Lib.hid (HA2.out _ h7.2.1 hb00)
        clear HA2 HX5 HX6 HFi HRA
        go_wp2_with fail
        refine HA3.out.mono ?_
        rintro e w9 ⟨pz, rfl, -, hb9⟩
        have hb10 := hb00.trans (hb9.mono hb00.size)
        clear hb9
        go_wp2
        go_ret
        exact ⟨rfl, hb10.trans ((Below.refl _ _).alloc hb10.size _)⟩
  · rw [appM_no h0] at hAp
    have HAp := Lib.hid hAp
    have e0 : (appE m d != 0) = true := net h0
    clear hAp h0
    generalize appE m d = er at *
    refine HAp.out.mono ?_
    rintro e w5 ⟨pz, rfl, -, hb5⟩
    have hb6 := hb4.1.trans (hb5.mono hb4.1.size)
    clear hb5
    go_wp2
    go_ret
    exact ⟨rfl, hb6.trans ((Below.refl _ _).alloc hb6.size _)⟩
theorem walk {H : Type} {enc : TypeId × Value → H} {W : World} {base : Nat} {v0 v1 : Value} {d0 d1 : DataW H} {p0 p1 : List MemPlace} (hsh : W.ShapedOpen Try.prog) (g0 : Arg enc Try.prog W base 26 v0 d0 p0) (g1 : Arg enc Try.prog W base 31 v1 d1 p1) :
    Calls Try.prog 5 #[v0, v1] W fun e w' => e = .returned (.bool true) ∧ Below W.heap.size W w' := by
  obtain ⟨m, p, rfl, hm⟩ := arg_man g0
  obtain ⟨x, q, rfl, hx⟩ := arg_edit g1
  exact body W hm hx (Nat.le_refl _) (var0 hsh)
end Go.Proofs.Ytjbmlhipjceeeaa.lawManifestRises
