/- The walk of ManifestSwaps. -/
import Derived.Test.YtjbmlhipjceeeaaProg
import Derived.Test.YtjbmlhipjceeeaaMfYa
import Derived.Test.YtjbmlhipjceeeaaMfZ
namespace Go.Proofs.Ytjbmlhipjceeeaa.lawManifestSwaps
open Go.RowKit Go.Proofs.Ytjbmlhipjceeeaa Go.Proofs.Ytjbmlhipjceeeaa.Mf

set_option maxRecDepth 100000 in
set_option maxHeartbeats 25600000 in
theorem body (w : World) {B : Nat} {m : Md} {p : Pl} {d : Ed} {q : Pd} {o : Ed} {r : Pd} (h : Man w B m p) (hd : Edi w B d q) (ho : Edi w B o r) (hB : B ≤ w.heap.size) (hm : Sh w) :
    Calls Try.prog 3 #[mdV m p, edV d q, edV o r] w fun e w' => e = .returned (.bool true) ∧ Below w.heap.size w w' := by
  have HT := Lib.hid fun W => wm3_at w m p d q o r (W := W)
  have HB0 := Lib.hid fun W => wm3_below w m p d q o r (W := W)
  have HLv := Lib.hid fun W (hW : Below w.heap.size w W) => lives_calls W (hm.below hW hm.lt)
  have HFw := Lib.hid fun W (hW : Below w.heap.size w W) => few_calls W (h.below (hW.mono hB)) (by have := hW.size; omega)
  have HFd := Lib.hid fun W (hW : Below w.heap.size w W) => fewD_calls W (hd.below (hW.mono hB)) (by have := hW.size; omega)
  have HFo := Lib.hid fun W (hW : Below w.heap.size w W) => fewD_calls W (ho.below (hW.mono hB)) (by have := hW.size; omega)
  have HMn := Lib.hid fun W (hW : Below w.heap.size w W) => h.below (hW.mono hB)
  have HEd := Lib.hid fun W (hW : Below w.heap.size w W) => hd.below (hW.mono hB)
  have HEo := Lib.hid fun W (hW : Below w.heap.size w W) => ho.below (hW.mono hB)
  have HSh := Lib.hid fun W (hW : Below w.heap.size w W) => hm.below hW hm.lt
  have HBw := Lib.hid hB
  have HWm : Hid (wm3 w m p d q o r = ((w.alloc (.cells #[.int .i64 m.gen, .int .i64 m.cut, .int .i64 m.fence, .slice p.AE m.E.length p.cE, .slice p.AM m.M.length p.cM, .slice p.AO m.O.length p.cO] 26)).alloc (.cells #[.slice q.AA d.add.length q.cA, .slice q.AD d.drop.length q.cD, .slice q.AM d.marks.length q.cM, .int .i64 d.cut, .int .i64 d.fence, .int .i64 d.by_.agent, .int .i64 d.by_.life, .int .i64 d.by_.count] 31)).alloc (.cells #[.slice r.AA o.add.length r.cA, .slice r.AD o.drop.length r.cD, .slice r.AM o.marks.length r.cM, .int .i64 o.cut, .int .i64 o.fence, .int .i64 o.by_.agent, .int .i64 o.by_.life, .int .i64 o.by_.count] 31)) := Lib.hid rfl
  clear h hd ho hm hB
  obtain ⟨AE, cE, AM, cM, AO, cO⟩ := p
  obtain ⟨DA, c1, DD, c2, DM, c3⟩ := q
  obtain ⟨GA, k1, GD, k2, GM, k3⟩ := r
  dsimp only at *
  have HW1 := Lib.hid (Below.refl (w.heap.size + 3) (wm3 w m ⟨AE, cE, AM, cM, AO, cO⟩ d ⟨DA, c1, DD, c2, DM, c3⟩ o ⟨GA, k1, GD, k2, GM, k3⟩))
  go_enter Try.func3, Try.ntmps3
  go_wp2_with fail
  rw [← HWm.out]
  clear HWm
  generalize wm3 w m ⟨AE, cE, AM, cM, AO, cO⟩ d ⟨DA, c1, DD, c2, DM, c3⟩ o ⟨GA, k1, GD, k2, GM, k3⟩ = wm at *
  have hb0 := HB0.out _ HW1.out
  refine (HLv.out _ hb0.1).mono ?_
  rintro e w1 ⟨rfl, hb1⟩
  have HW2 : Hid (Below (w.heap.size + 3) wm w1) := Lib.hid (hb1.mono hb0.2)
  have hb2 := HB0.out _ HW2.out
  obtain ⟨⟨s0, s1, s2, s3, s4, s5⟩, ⟨t0, t1, t2, t3, t4, t5, t6, t7⟩, ⟨z0, z1, z2, z3, z4, z5, z6, z7⟩⟩ := HT.out _ HW2.out
  clear hb1 HW1 hb0
  cases hf : fewB m
  · have HX := HFw.out _ hb2.1
    rw [hf] at HX
    have HX2 := Lib.hid HX
    clear HX hf
    go_wp2_with (go_at_call 7; refine HX2.out.mono ?_; rintro e w3 ⟨rfl, hb3⟩)
    have hb4 := hb2.1.trans (hb3.mono hb2.1.size)
    refine (HLv.out _ hb4).mono ?_
    rintro e w9 ⟨rfl, hb9⟩
    go_wp2
    go_ret
    exact ⟨rfl, hb4.trans (hb9.mono hb4.size)⟩
  have HX := HFw.out _ hb2.1
  rw [hf] at HX
  have HX2 := Lib.hid HX
  clear HX
  cases hfd : fewD d
  · have HFd2 : Hid (∀ W, Below w.heap.size w W → Calls Try.prog 8 #[edV d ⟨DA, c1, DD, c2, DM, c3⟩] W fun e w' => e = .returned (.bool false) ∧ Below W.heap.size W w') := Lib.hid fun W hW => by have := HFd.out W hW; rw [hfd] at this; exact this
    clear hf hfd
    go_wp2_with first | (go_at_call 7; refine HX2.out.mono ?_; rintro e w3 ⟨rfl, hb3⟩; have HW3 : Hid (Below (w.heap.size + 3) wm w3) := Lib.hid (HW2.out.trans (hb3.mono hb2.2)); have hb3' := HB0.out _ HW3.out; obtain ⟨-, ⟨l0, l1, l2, l3, l4, l5, l6, l7⟩, -⟩ := HT.out _ HW3.out) | (go_at_call 8; refine (HFd2.out _ hb3'.1).mono ?_; rintro e w4 ⟨rfl, hb5⟩)
    have hb6 := hb3'.1.trans (hb5.mono hb3'.1.size)
    refine (HLv.out _ hb6).mono ?_
    rintro e w9 ⟨rfl, hb9⟩
    go_wp2
    go_ret
    exact ⟨rfl, hb6.trans (hb9.mono hb6.size)⟩
  have HFd2 : Hid (∀ W, Below w.heap.size w W → Calls Try.prog 8 #[edV d ⟨DA, c1, DD, c2, DM, c3⟩] W fun e w' => e = .returned (.bool true) ∧ Below W.heap.size W w') := Lib.hid fun W hW => by have := HFd.out W hW; rw [hfd] at this; exact this
  cases hfo : fewD o
  · have HFo2 : Hid (∀ W, Below w.heap.size w W → Calls Try.prog 8 #[edV o ⟨GA, k1, GD, k2, GM, k3⟩] W fun e w' => e = .returned (.bool false) ∧ Below W.heap.size W w') := Lib.hid fun W hW => by have := HFo.out W hW; rw [hfo] at this; exact this
    clear hf hfd hfo
    go_wp2_with fail
    refine HX2.out.mono ?_
    rintro e w3 ⟨rfl, hb3⟩
    have HW3 : Hid (Below (w.heap.size + 3) wm w3) := Lib.hid (HW2.out.trans (hb3.mono hb2.2))
    have hb3' := HB0.out _ HW3.out
    obtain ⟨-, ⟨l0, l1, l2, l3, l4, l5, l6, l7⟩, -⟩ := HT.out _ HW3.out
    go_wp2_with fail
    refine (HFd2.out _ hb3'.1).mono ?_
    rintro e w4 ⟨rfl, hb4'⟩
    have HW4 : Hid (Below (w.heap.size + 3) wm w4) := Lib.hid (HW3.out.trans (hb4'.mono hb3'.2))
    have hb4 := HB0.out _ HW4.out
    obtain ⟨-, -, ⟨a0, a1, a2, a3, a4, a5, a6, a7⟩⟩ := HT.out _ HW4.out
    clear hb3 hb4' hb3' HW3 l0 l1 l2 l3 l4 l5 l6 l7
    go_wp2_with fail
    refine (HFo2.out _ hb4.1).mono ?_
    rintro e w5 ⟨rfl, hb5⟩
    have hb6 := hb4.1.trans (hb5.mono hb4.1.size)
    go_wp2_with fail
    refine (HLv.out _ hb6).mono ?_
    rintro e w9 ⟨rfl, hb9⟩
    go_wp2
    go_ret
    exact ⟨rfl, hb6.trans (hb9.mono hb6.size)⟩
  have HFo2 : Hid (∀ W, Below w.heap.size w W → Calls Try.prog 8 #[edV o ⟨GA, k1, GD, k2, GM, k3⟩] W fun e w' => e = .returned (.bool true) ∧ Below W.heap.size W w') := Lib.hid fun W hW => by have := HFo.out W hW; rw [hfo] at this; exact this
  have HSE : Hid (Short m.E) := Lib.hid fun x hx => by have := (few_f hf).2.2.2 x hx; omega
  have HSD : Hid (Short d.add) := Lib.hid fun x hx => by have := (fewD_f hfd).2.2.2 x hx; omega
  have HSO : Hid (Short o.add) := Lib.hid fun x hx => by have := (fewD_f hfo).2.2.2 x hx; omega
  clear hf hfd hfo HFw HFd HFo
  by_cases ha : d.by_.agent = o.by_.agent
  · have f0 : (d.by_.agent == o.by_.agent) = true := eqt ha
    clear ha
    go_wp2_with fail
    refine HX2.out.mono ?_
    rintro e w3 ⟨rfl, hb3⟩
    have HW3 : Hid (Below (w.heap.size + 3) wm w3) := Lib.hid (HW2.out.trans (hb3.mono hb2.2))
    have hb3' := HB0.out _ HW3.out
    obtain ⟨-, ⟨l0, l1, l2, l3, l4, l5, l6, l7⟩, -⟩ := HT.out _ HW3.out
    go_wp2_with fail
    refine (HFd2.out _ hb3'.1).mono ?_
    rintro e w4 ⟨rfl, hb4'⟩
    have HW4 : Hid (Below (w.heap.size + 3) wm w4) := Lib.hid (HW3.out.trans (hb4'.mono hb3'.2))
    have hb4 := HB0.out _ HW4.out
    obtain ⟨-, -, ⟨a0, a1, a2, a3, a4, a5, a6, a7⟩⟩ := HT.out _ HW4.out
    clear hb3 hb4' hb3' HW3 l0 l1 l2 l3 l4 l5 l6 l7
    go_wp2_with fail
    refine (HFo2.out _ hb4.1).mono ?_
    rintro e w5 ⟨rfl, hb5⟩
    have hb6 := hb4.1.trans (hb5.mono hb4.1.size)
    have HW5 : Hid (Below (w.heap.size + 3) wm w5) := Lib.hid (HW4.out.trans (hb5.mono hb4.2))
    obtain ⟨-, ⟨b0, b1, b2, b3, b4, b5, b6, b7⟩, ⟨v0, v1, v2, v3, v4, v5, v6, v7⟩⟩ := HT.out _ HW5.out
    go_wp2_with fail
    refine (HLv.out _ hb6).mono ?_
    rintro e w9 ⟨rfl, hb9⟩
    go_wp2
    go_ret
    exact ⟨rfl, hb6.trans (hb9.mono hb6.size)⟩
  have f0 : (d.by_.agent == o.by_.agent) = false := eqf ha
  have HNe := Lib.hid ha
  clear ha
  go_wp2_with fail
  refine HX2.out.mono ?_
  rintro e w3 ⟨rfl, hb3⟩
  have HW3 : Hid (Below (w.heap.size + 3) wm w3) := Lib.hid (HW2.out.trans (hb3.mono hb2.2))
  have hb3' := HB0.out _ HW3.out
  obtain ⟨-, ⟨l0, l1, l2, l3, l4, l5, l6, l7⟩, -⟩ := HT.out _ HW3.out
  go_wp2_with fail
  refine (HFd2.out _ hb3'.1).mono ?_
  rintro e w4 ⟨rfl, hb4'⟩
  have HW4 : Hid (Below (w.heap.size + 3) wm w4) := Lib.hid (HW3.out.trans (hb4'.mono hb3'.2))
  have hb4 := HB0.out _ HW4.out
  obtain ⟨-, -, ⟨a0, a1, a2, a3, a4, a5, a6, a7⟩⟩ := HT.out _ HW4.out
  clear hb3 hb4' hb3' HW3 l0 l1 l2 l3 l4 l5 l6 l7
  go_wp2_with fail
  refine (HFo2.out _ hb4.1).mono ?_
  rintro e w5 ⟨rfl, hb5⟩
  have HW5 : Hid (Below (w.heap.size + 3) wm w5) := Lib.hid (HW4.out.trans (hb5.mono hb4.2))
  obtain ⟨-, ⟨b0, b1, b2, b3, b4, b5, b6, b7⟩, ⟨v0, v1, v2, v3, v4, v5, v6, v7⟩⟩ := HT.out _ HW5.out
  have HRA := Lib.hid fun W (hW : Below w.heap.size w W) => (HEd.out W hW).ra
  have HRO := Lib.hid fun W (hW : Below w.heap.size w W) => (HEo.out W hW).ra
  have hla := (HEd.out w (Below.refl _ _)).la
  have hlo := (HEo.out w (Below.refl _ _)).la
  clear hb5 hb4 HW4 HFd2 HFo2 HX2 hb2 HW2 s0 s1 s2 s3 s4 s5 t0 t1 t2 t3 t4 t5 t6 t7 z0 z1 z2 z3 z4 z5 z6 z7
  go_wp2
  go_loopw [47] (fun i wr => ∃ j : Nat, j ≤ d.add.length ∧ i = .int .i64 (j : Int) ∧ Hid (∀ i, i < j → ∀ y ∈ o.add, (gt d.add i).key ≠ y.key) ∧ Hid (Below (w.heap.size + 3) wm wr)) (fun i _ => d.add.length - (intOf i).toNat)
  case atStart => exact ⟨0, Nat.zero_le _, rfl, Lib.hid (fun i hi => absurd hi (Nat.not_lt_zero i)), HW5⟩
  case round =>
    clear HW5 b0 b1 b2 b3 b4 b5 b6 b7 v0 v1 v2 v3 v4 v5 v6 v7 f0
    obtain ⟨j, hj, rfl, HF, HW⟩ := hrel
    obtain ⟨wo, rfl⟩ : ∃ wo : World, wo = wr := ⟨_, rfl⟩
    have h5 := HB0.out _ HW.out
    obtain ⟨⟨s0, s1, s2, s3, s4, s5⟩, ⟨t0, t1, t2, t3, t4, t5, t6, t7⟩, ⟨z0, z1, z2, z3, z4, z5, z6, z7⟩⟩ := HT.out _ HW.out
    have hg0 : w.heap.size < wo.heap.size := by omega
    have hg1 : w.heap.size + 1 < wo.heap.size := by omega
    have hg2 : w.heap.size + 2 < wo.heap.size := by omega
    by_cases hlt : j < d.add.length
    · have hr := HRA.out wo h5.1
      obtain ⟨b, off, rfl, hbB⟩ := row_addr hr (by omega)
      obtain ⟨p0, p1, p2, p3, p4, p5, p6, p7, p8⟩ : wo.cell? ⟨b, off + j * 9, none⟩ = some (.string (gt d.add j).key) ∧ wo.cell? ⟨b, off + j * 9 + 1, none⟩ = some (.int .i64 (gt d.add j).window) ∧ wo.cell? ⟨b, off + j * 9 + 2, none⟩ = some (.string (gt d.add j).part) ∧ wo.cell? ⟨b, off + j * 9 + 3, none⟩ = some (.int .i64 (gt d.add j).first) ∧ wo.cell? ⟨b, off + j * 9 + 4, none⟩ = some (.int .i64 (gt d.add j).last) ∧ wo.cell? ⟨b, off + j * 9 + 5, none⟩ = some (.int .i64 (gt d.add j).rows) ∧ wo.cell? ⟨b, off + j * 9 + 6, none⟩ = some (.int .i64 (gt d.add j).size) ∧ wo.cell? ⟨b, off + j * 9 + 7, none⟩ = some (.int .u32 (gt d.add j).sum) ∧ wo.cell? ⟨b, off + j * 9 + 8, none⟩ = some (.int .i64 (gt d.add j).born) := ⟨row_cell ecs_len hr hlt (j := 0) rfl, row_cell ecs_len hr hlt (j := 1) rfl, row_cell ecs_len hr hlt (j := 2) rfl, row_cell ecs_len hr hlt (j := 3) rfl, row_cell ecs_len hr hlt (j := 4) rfl, row_cell ecs_len hr hlt (j := 5) rfl, row_cell ecs_len hr hlt (j := 6) rfl, row_cell ecs_len hr hlt (j := 7) rfl, row_cell ecs_len hr hlt (j := 8) rfl⟩
      have HB1 := Lib.hid ((Below.refl wo.heap.size wo).alloc (Nat.le_refl _) (.cells #[.string (gt d.add j).key, .int .i64 (gt d.add j).window, .string (gt d.add j).part, .int .i64 (gt d.add j).first, .int .i64 (gt d.add j).last, .int .i64 (gt d.add j).rows, .int .i64 (gt d.add j).size, .int .u32 (gt d.add j).sum, .int .i64 (gt d.add j).born] 37))
      have HWi := Lib.hid (Below.refl (wo.heap.size + 1) (wo.alloc (.cells #[.string (gt d.add j).key, .int .i64 (gt d.add j).window, .string (gt d.add j).part, .int .i64 (gt d.add j).first, .int .i64 (gt d.add j).last, .int .i64 (gt d.add j).rows, .int .i64 (gt d.add j).size, .int .u32 (gt d.add j).sum, .int .i64 (gt d.add j).born] 37)))
      have HBL : Hid (∀ W, Below (wo.heap.size + 1) (wo.alloc (.cells #[.string (gt d.add j).key, .int .i64 (gt d.add j).window, .string (gt d.add j).part, .int .i64 (gt d.add j).first, .int .i64 (gt d.add j).last, .int .i64 (gt d.add j).rows, .int .i64 (gt d.add j).size, .int .u32 (gt d.add j).sum, .int .i64 (gt d.add j).born] 37)) W → (W.cell? ⟨wo.heap.size, 0, none⟩ = some (.string (gt d.add j).key)) ∧ Below (w.heap.size + 3) wm W ∧ wo.heap.size + 1 ≤ W.heap.size) := Lib.hid fun W hW => by
        have hb := (Blk.new wo 37 #[.string (gt d.add j).key, .int .i64 (gt d.add j).window, .string (gt d.add j).part, .int .i64 (gt d.add j).first, .int .i64 (gt d.add j).last, .int .i64 (gt d.add j).rows, .int .i64 (gt d.add j).size, .int .u32 (gt d.add j).sum, .int .i64 (gt d.add j).born]).below hW (Nat.lt_succ_self _)
        exact ⟨hb.cell 0, HW.out.trans ((HB1.out.trans (hW.mono (by omega))).mono h5.2), by have := hW.size; simp at this; omega⟩
      have HSt : Hid ((∀ i, i < o.add.length → (gt d.add j).key ≠ (gt o.add i).key) → ∀ i, i < j + 1 → ∀ y ∈ o.add, (gt d.add i).key ≠ y.key) := Lib.hid fun hh i hi y hy => by
        rcases Nat.lt_or_ge i j with h1 | h1
        · exact HF.out i h1 y hy
        · obtain rfl : i = j := by omega
          obtain ⟨k, hk, rfl⟩ := mem_gt hy
          exact hh k hk
      clear hr HF
      generalize gt d.add j = x at *
      go_wp2
      generalize wo.alloc (.cells #[.string x.key, .int .i64 x.window, .string x.part, .int .i64 x.first, .int .i64 x.last, .int .i64 x.rows, .int .i64 x.size, .int .u32 x.sum, .int .i64 x.born] 37) = wi at *
      go_loopw [54] (fun i wr => ∃ k : Nat, k ≤ o.add.length ∧ i = .int .i64 (k : Int) ∧ Hid (∀ i, i < k → x.key ≠ (gt o.add i).key) ∧ Hid (Below (wo.heap.size + 1) wi wr)) (fun i _ => o.add.length - (intOf i).toNat)
      case atStart => exact ⟨0, Nat.zero_le _, rfl, Lib.hid (fun i hi => absurd hi (Nat.not_lt_zero i)), HWi⟩
      case round =>
        clear HWi
        obtain ⟨k, hk, rfl, HG, HWi⟩ := hrel
        obtain ⟨x0, hwr, hgr⟩ := HBL.out _ HWi.out
        have hb00 := (HB0.out _ hwr).1
        have hgx : wo.heap.size < wr.heap.size := by omega
        by_cases hlk : k < o.add.length
        · have hr := HRO.out wr hb00
          obtain ⟨bb, off2, rfl, hbB2⟩ := row_addr hr (by omega)
          obtain ⟨v0, v1, v2, v3, v4, v5, v6, v7, v8⟩ : wr.cell? ⟨bb, off2 + k * 9, none⟩ = some (.string (gt o.add k).key) ∧ wr.cell? ⟨bb, off2 + k * 9 + 1, none⟩ = some (.int .i64 (gt o.add k).window) ∧ wr.cell? ⟨bb, off2 + k * 9 + 2, none⟩ = some (.string (gt o.add k).part) ∧ wr.cell? ⟨bb, off2 + k * 9 + 3, none⟩ = some (.int .i64 (gt o.add k).first) ∧ wr.cell? ⟨bb, off2 + k * 9 + 4, none⟩ = some (.int .i64 (gt o.add k).last) ∧ wr.cell? ⟨bb, off2 + k * 9 + 5, none⟩ = some (.int .i64 (gt o.add k).rows) ∧ wr.cell? ⟨bb, off2 + k * 9 + 6, none⟩ = some (.int .i64 (gt o.add k).size) ∧ wr.cell? ⟨bb, off2 + k * 9 + 7, none⟩ = some (.int .u32 (gt o.add k).sum) ∧ wr.cell? ⟨bb, off2 + k * 9 + 8, none⟩ = some (.int .i64 (gt o.add k).born) := ⟨row_cell ecs_len hr hlk (j := 0) rfl, row_cell ecs_len hr hlk (j := 1) rfl, row_cell ecs_len hr hlk (j := 2) rfl, row_cell ecs_len hr hlk (j := 3) rfl, row_cell ecs_len hr hlk (j := 4) rfl, row_cell ecs_len hr hlk (j := 5) rfl, row_cell ecs_len hr hlk (j := 6) rfl, row_cell ecs_len hr hlk (j := 7) rfl, row_cell ecs_len hr hlk (j := 8) rfl⟩
          have HE : Hid (Below (wo.heap.size + 1) wi (wr.alloc (.cells #[.string (gt o.add k).key, .int .i64 (gt o.add k).window, .string (gt o.add k).part, .int .i64 (gt o.add k).first, .int .i64 (gt o.add k).last, .int .i64 (gt o.add k).rows, .int .i64 (gt o.add k).size, .int .u32 (gt o.add k).sum, .int .i64 (gt o.add k).born] 37))) := Lib.hid (HWi.out.alloc (by omega) _)
          have HGs : Hid (x.key ≠ (gt o.add k).key → ∀ i, i < k + 1 → x.key ≠ (gt o.add i).key) := Lib.hid fun hh i hi => by
            rcases Nat.lt_or_ge i k with h1 | h1
            · exact HG.out i h1
            · obtain rfl : i = k := by omega
              exact hh
          clear hr HG
          generalize gt o.add k = y at *
          by_cases hxy : x.key = y.key
          · have t0 : (x.key.toList == y.key.toList) = true := by rw [bytes_beq]; exact dct hxy
            clear hxy HGs
            go_wp2
            go_ret
            exact ⟨rfl, (HB0.out _ (HBL.out _ HE.out).2.1).1⟩
          · have t0 : (x.key.toList == y.key.toList) = false := by rw [bytes_beq]; exact dcf hxy
            have HG2 := Lib.hid (HGs.out hxy)
            clear hxy HGs
            go_wp2
            go_roundw
            case rel => exact ⟨k + 1, by omega, by go_num, HG2, HE⟩
            case measure => simp [intOf]; omega
        obtain rfl : k = o.add.length := by omega
        have HF2 := Lib.hid (HSt.out HG.out)
        have HW2 := Lib.hid hwr
        go_wp2
        go_roundw
        case rel => exact ⟨j + 1, by omega, by go_num, HF2, HW2⟩
        case measure => simp [intOf]; omega
    obtain rfl : j = d.add.length := by omega
    have HK : Hid (∀ x ∈ d.add, ∀ y ∈ o.add, x.key ≠ y.key) := Lib.hid fun x hx y hy => by
      obtain ⟨i, hi, rfl⟩ := mem_gt hx
      exact HF.out i hi y hy
    have HA1 := Lib.hid (apply_calls wo (HMn.out _ h5.1) (HEd.out _ h5.1) (Nat.le_trans HBw.out h5.1.size) HSE.out HSD.out (HSh.out _ h5.1))
    have HA2 := Lib.hid fun W (hW : Below w.heap.size w W) => apply_calls W (HMn.out W hW) (HEo.out W hW) (Nat.le_trans HBw.out hW.size) HSE.out HSO.out (HSh.out W hW)
    have HOk := Lib.hid (HMn.out w (Below.refl _ _)).ok
    have HOd := Lib.hid (HEd.out w (Below.refl _ _)).ok
    have HOo := Lib.hid (HEo.out w (Below.refl _ _)).ok
    clear HF HRA HRO
    generalize he1 : appE m d = er1 at *
    generalize hm1 : appM m d = M1 at *
    have HE1 := Lib.hid he1
    have HM1 := Lib.hid hm1
    clear he1 hm1
    go_wp2_with fail
    refine HA1.out.mono ?_
    rintro e w6 ⟨pz, rfl, hmo1, hb6⟩
    obtain ⟨XE, xE, XM, xM, XO, xO⟩ := pz
    have hW6 : Below (w.heap.size + 3) wm w6 := HW.out.trans (hb6.mono h5.2)
    have h6 := HB0.out _ hW6
    have HMo1 := Lib.hid hmo1
    have HW6 := Lib.hid hW6
    have hW6' : Below (w.heap.size + 3) wm (w6.alloc (.cells #[.int .i64 M1.gen, .int .i64 M1.cut, .int .i64 M1.fence, .slice XE M1.E.length xE, .slice XM M1.M.length xM, .slice XO M1.O.length xO] 26)) := hW6.alloc h6.2 _
    have h6' := HB0.out _ hW6'
    have HA2' := Lib.hid (HA2.out _ h6'.1)
    have HW6' := Lib.hid hW6'
    clear s0 s1 s2 s3 s4 s5 t0 t1 t2 t3 t4 t5 t6 t7 z0 z1 z2 z3 z4 z5 z6 z7 hg0 hg1 hg2 hmo1 hW6 hW6' hb6 h5 HA1 HA2
    obtain ⟨⟨s0, s1, s2, s3, s4, s5⟩, ⟨t0, t1, t2, t3, t4, t5, t6, t7⟩, ⟨z0, z1, z2, z3, z4, z5, z6, z7⟩⟩ := HT.out _ HW6.out
    have hg0 : w.heap.size < w6.heap.size := by omega
    have hg1 : w.heap.size + 1 < w6.heap.size := by omega
    have hg2 : w.heap.size + 2 < w6.heap.size := by omega
    generalize he2 : appE m o = er2 at *
    generalize hm2 : appM m o = M2 at *
    have HE2 := Lib.hid he2
    have HM2 := Lib.hid hm2
    clear he2 hm2
    go_wp2_with fail
    refine HA2'.out.mono ?_
    rintro e w7 ⟨pz, rfl, hmo2, hb7⟩
    obtain ⟨YE, yE, YM, yM, YO, yO⟩ := pz
    have hsz6 : w6.heap.size + 1 ≤ (w6.alloc (.cells #[.int .i64 M1.gen, .int .i64 M1.cut, .int .i64 M1.fence, .slice XE M1.E.length xE, .slice XM M1.M.length xM, .slice XO M1.O.length xO] 26)).heap.size := by simp
    have hW7 : Below (w.heap.size + 3) wm w7 := HW6'.out.trans (hb7.mono h6'.2)
    have hx7 : Below (w6.heap.size + 1) (w6.alloc (.cells #[.int .i64 M1.gen, .int .i64 M1.cut, .int .i64 M1.fence, .slice XE M1.E.length xE, .slice XM M1.M.length xM, .slice XO M1.O.length xO] 26)) w7 := hb7.mono hsz6
    have h7 := HB0.out _ hW7
    have HMo2 := Lib.hid hmo2
    have HW7 := Lib.hid hW7
    have HX7 := Lib.hid hx7
    have hs76 : w6.heap.size + 1 ≤ w7.heap.size := Nat.le_trans hsz6 hb7.size
    clear hmo2 hW7 hx7 hb7 HA2' s0 s1 s2 s3 s4 s5 t0 t1 t2 t3 t4 t5 t6 t7 z0 z1 z2 z3 z4 z5 z6 z7 hg0 hg1 hg2 h6' HW6' hsz6
    by_cases e1 : er1 = 0
    · have f1 : (er1 != 0) = false := nef e1
      by_cases e2 : er2 = 0
      · have f2 : (er2 != 0) = false := nef e2
        subst e1 e2
        clear f1 f2
        have hG1 : M1 = appl m d := by rw [← HM1.out]; exact appM_ok HE1.out
        have hG2 : M2 = appl m o := by rw [← HM2.out]; exact appM_ok HE2.out
        have HQ1 := Lib.hid hG1
        have HQ2 := Lib.hid hG2
        have HX1 : Hid (Mf.Good M1) := Lib.hid (by rw [hG1]; exact app_good HE1.out HOk.out HSE.out HOd.out HSD.out)
        have HX2 : Hid (Mf.Good M2) := Lib.hid (by rw [hG2]; exact app_good HE2.out HOk.out HSE.out HOo.out HSO.out)
        clear hG1 hG2
        have HMa := Lib.hid fun W (hW : Below w6.heap.size w6 W) => (Mow.good HMo1.out HX1.out).below hW
        have HMb := Lib.hid fun W (hW : Below w7.heap.size w7 W) => (Mow.good HMo2.out HX2.out).below hW
        have HTa : Hid (∀ W, Below (w6.heap.size + 1) (w6.alloc (.cells #[.int .i64 M1.gen, .int .i64 M1.cut, .int .i64 M1.fence, .slice XE M1.E.length xE, .slice XM M1.M.length xM, .slice XO M1.O.length xO] 26)) W → (W.cell? ⟨w6.heap.size, 0, none⟩ = some (.int .i64 M1.gen) ∧ W.cell? ⟨w6.heap.size, 1, none⟩ = some (.int .i64 M1.cut) ∧ W.cell? ⟨w6.heap.size, 2, none⟩ = some (.int .i64 M1.fence) ∧ W.cell? ⟨w6.heap.size, 3, none⟩ = some (.slice XE M1.E.length xE) ∧ W.cell? ⟨w6.heap.size, 4, none⟩ = some (.slice XM M1.M.length xM) ∧ W.cell? ⟨w6.heap.size, 5, none⟩ = some (.slice XO M1.O.length xO)) ∧ Below w6.heap.size w6 W) := Lib.hid fun W hW => by
          have h1 := (Blk.new w6 26 #[.int .i64 M1.gen, .int .i64 M1.cut, .int .i64 M1.fence, .slice XE M1.E.length xE, .slice XM M1.M.length xM, .slice XO M1.O.length xO]).below hW (by omega)
          exact ⟨⟨h1.cell 0, h1.cell 1, h1.cell 2, h1.cell 3, h1.cell 4, h1.cell 5⟩, ((Below.refl w6.heap.size w6).alloc (Nat.le_refl _) _).trans (hW.mono (by omega))⟩
        have HTb : Hid (∀ W, Below (w7.heap.size + 1) (w7.alloc (.cells #[.int .i64 M2.gen, .int .i64 M2.cut, .int .i64 M2.fence, .slice YE M2.E.length yE, .slice YM M2.M.length yM, .slice YO M2.O.length yO] 26)) W → (W.cell? ⟨w7.heap.size, 0, none⟩ = some (.int .i64 M2.gen) ∧ W.cell? ⟨w7.heap.size, 1, none⟩ = some (.int .i64 M2.cut) ∧ W.cell? ⟨w7.heap.size, 2, none⟩ = some (.int .i64 M2.fence) ∧ W.cell? ⟨w7.heap.size, 3, none⟩ = some (.slice YE M2.E.length yE) ∧ W.cell? ⟨w7.heap.size, 4, none⟩ = some (.slice YM M2.M.length yM) ∧ W.cell? ⟨w7.heap.size, 5, none⟩ = some (.slice YO M2.O.length yO)) ∧ Below w7.heap.size w7 W ∧ w7.heap.size + 1 ≤ W.heap.size) := Lib.hid fun W hW => by
          have h1 := (Blk.new w7 26 #[.int .i64 M2.gen, .int .i64 M2.cut, .int .i64 M2.fence, .slice YE M2.E.length yE, .slice YM M2.M.length yM, .slice YO M2.O.length yO]).below hW (by omega)
          exact ⟨⟨h1.cell 0, h1.cell 1, h1.cell 2, h1.cell 3, h1.cell 4, h1.cell 5⟩, ((Below.refl w7.heap.size w7).alloc (Nat.le_refl _) _).trans (hW.mono (by omega)), by have := hW.size; simp at this; omega⟩
        have hW8 : Below (w.heap.size + 3) wm (w7.alloc (.cells #[.int .i64 M2.gen, .int .i64 M2.cut, .int .i64 M2.fence, .slice YE M2.E.length yE, .slice YM M2.M.length yM, .slice YO M2.O.length yO] 26)) := HW7.out.alloc h7.2 _
        have hX8 : Below (w6.heap.size + 1) (w6.alloc (.cells #[.int .i64 M1.gen, .int .i64 M1.cut, .int .i64 M1.fence, .slice XE M1.E.length xE, .slice XM M1.M.length xM, .slice XO M1.O.length xO] 26)) (w7.alloc (.cells #[.int .i64 M2.gen, .int .i64 M2.cut, .int .i64 M2.fence, .slice YE M2.E.length yE, .slice YM M2.M.length yM, .slice YO M2.O.length yO] 26)) := HX7.out.alloc hs76 _
        have hY8 : Below (w7.heap.size + 1) (w7.alloc (.cells #[.int .i64 M2.gen, .int .i64 M2.cut, .int .i64 M2.fence, .slice YE M2.E.length yE, .slice YM M2.M.length yM, .slice YO M2.O.length yO] 26)) (w7.alloc (.cells #[.int .i64 M2.gen, .int .i64 M2.cut, .int .i64 M2.fence, .slice YE M2.E.length yE, .slice YM M2.M.length yM, .slice YO M2.O.length yO] 26)) := Below.refl _ _
        have h8 := HB0.out _ hW8
        have hb68 := (HTa.out _ hX8).2
        have HA3 := Lib.hid (apply_calls _ ((HMa.out _ hb68).more hb68.size) ((HEo.out _ h8.1).more (Nat.le_trans HBw.out h8.1.size)) (Nat.le_refl _) HX1.out.2.1 HSO.out (HSh.out _ h8.1))
        have HW8 := Lib.hid hW8
        have HX8 := Lib.hid hX8
        have HY8 := Lib.hid hY8
        clear hW8 hX8 hY8 hb68
        obtain ⟨-, -, ⟨z0, z1, z2, z3, z4, z5, z6, z7⟩⟩ := HT.out _ HW7.out
        obtain ⟨⟨a0, a1, a2, a3, a4, a5⟩, -⟩ := HTa.out _ HX7.out
        have hg2 : w.heap.size + 2 < w7.heap.size := by omega
        have hga : w6.heap.size < w7.heap.size := by omega
        have hsz7 : w7.heap.size + 1 ≤ (w7.alloc (.cells #[.int .i64 M2.gen, .int .i64 M2.cut, .int .i64 M2.fence, .slice YE M2.E.length yE, .slice YM M2.M.length yM, .slice YO M2.O.length yO] 26)).heap.size := by simp
        generalize he3 : appE M1 o = er3 at *
        generalize hm3 : appM M1 o = M3 at *
        have HE3 := Lib.hid he3
        have HM3 := Lib.hid hm3
        clear he3 hm3
        go_wp2_with fail
        refine HA3.out.mono ?_
        rintro e w9 ⟨pz, rfl, hmo3, hb9⟩
        obtain ⟨UE, uE, UM, uM, UO, uO⟩ := pz
        have hW9 : Below (w.heap.size + 3) wm w9 := HW8.out.trans (hb9.mono h8.2)
        have hY9 : Below (w7.heap.size + 1) (w7.alloc (.cells #[.int .i64 M2.gen, .int .i64 M2.cut, .int .i64 M2.fence, .slice YE M2.E.length yE, .slice YM M2.M.length yM, .slice YO M2.O.length yO] 26)) w9 := HY8.out.trans (hb9.mono hsz7)
        have h9 := HB0.out _ hW9
        have hs97 := (HTb.out _ hY9).2.2
        have HW9 := Lib.hid hW9
        have HY9 := Lib.hid hY9
        have HMo3 := Lib.hid hmo3
        clear hb9 hW9 hY9 hmo3 HA3 HX8 HY8 HW8 h8 hsz7 z0 z1 z2 z3 z4 z5 z6 z7 a0 a1 a2 a3 a4 a5 hg2 hga
        have hW10 : Below (w.heap.size + 3) wm (w9.alloc (.cells #[.int .i64 M3.gen, .int .i64 M3.cut, .int .i64 M3.fence, .slice UE M3.E.length uE, .slice UM M3.M.length uM, .slice UO M3.O.length uO] 26)) := HW9.out.alloc h9.2 _
        have hY10 : Below (w7.heap.size + 1) (w7.alloc (.cells #[.int .i64 M2.gen, .int .i64 M2.cut, .int .i64 M2.fence, .slice YE M2.E.length yE, .slice YM M2.M.length yM, .slice YO M2.O.length yO] 26)) (w9.alloc (.cells #[.int .i64 M3.gen, .int .i64 M3.cut, .int .i64 M3.fence, .slice UE M3.E.length uE, .slice UM M3.M.length uM, .slice UO M3.O.length uO] 26)) := HY9.out.alloc hs97 _
        have h10 := HB0.out _ hW10
        have hb710 := (HTb.out _ hY10).2.1
        have HA4 := Lib.hid (apply_calls _ ((HMb.out _ hb710).more hb710.size) ((HEd.out _ h10.1).more (Nat.le_trans HBw.out h10.1.size)) (Nat.le_refl _) HX2.out.2.1 HSD.out (HSh.out _ h10.1))
        have HW10 := Lib.hid hW10
        clear hW10 hY10 hb710
        obtain ⟨-, ⟨t0, t1, t2, t3, t4, t5, t6, t7⟩, -⟩ := HT.out _ HW9.out
        obtain ⟨⟨b0, b1, b2, b3, b4, b5⟩, -⟩ := HTb.out _ HY9.out
        have hg1 : w.heap.size + 1 < w9.heap.size := by omega
        have hgb : w7.heap.size < w9.heap.size := by omega
        have hsz9 : w9.heap.size + 1 ≤ (w9.alloc (.cells #[.int .i64 M3.gen, .int .i64 M3.cut, .int .i64 M3.fence, .slice UE M3.E.length uE, .slice UM M3.M.length uM, .slice UO M3.O.length uO] 26)).heap.size := by simp
        generalize he4 : appE M2 d = er4 at *
        generalize hm4 : appM M2 d = M4 at *
        have HE4 := Lib.hid he4
        have HM4 := Lib.hid hm4
        clear he4 hm4
        go_wp2_with fail
        refine HA4.out.mono ?_
        rintro e w11 ⟨pz, rfl, hmo4, hb11⟩
        obtain ⟨VE, vE, VM, vM, VO, vO⟩ := pz
        have hW11 : Below (w.heap.size + 3) wm w11 := HW10.out.trans (hb11.mono h10.2)
        have hU11 : Below (w9.heap.size + 1) (w9.alloc (.cells #[.int .i64 M3.gen, .int .i64 M3.cut, .int .i64 M3.fence, .slice UE M3.E.length uE, .slice UM M3.M.length uM, .slice UO M3.O.length uO] 26)) w11 := hb11.mono hsz9
        have hU9 : Below w9.heap.size w9 w11 := ((Below.refl w9.heap.size w9).alloc (Nat.le_refl _) _).trans (hU11.mono (by omega))
        have h11 := HB0.out _ hW11
        have hB3 := (Blk.new w9 26 #[.int .i64 M3.gen, .int .i64 M3.cut, .int .i64 M3.fence, .slice UE M3.E.length uE, .slice UM M3.M.length uM, .slice UO M3.O.length uO]).below hU11 (by omega)
        obtain ⟨u0, u1, u2, u3, u4, u5⟩ : w11.cell? ⟨w9.heap.size, 0, none⟩ = some (.int .i64 M3.gen) ∧ w11.cell? ⟨w9.heap.size, 1, none⟩ = some (.int .i64 M3.cut) ∧ w11.cell? ⟨w9.heap.size, 2, none⟩ = some (.int .i64 M3.fence) ∧ w11.cell? ⟨w9.heap.size, 3, none⟩ = some (.slice UE M3.E.length uE) ∧ w11.cell? ⟨w9.heap.size, 4, none⟩ = some (.slice UM M3.M.length uM) ∧ w11.cell? ⟨w9.heap.size, 5, none⟩ = some (.slice UO M3.O.length uO) := ⟨hB3.cell 0, hB3.cell 1, hB3.cell 2, hB3.cell 3, hB3.cell 4, hB3.cell 5⟩
        have hg9 : w9.heap.size < w11.heap.size := by have := hb11.size; omega
        have HMo4 := Lib.hid hmo4
        have HU9 := Lib.hid hU9
        clear hmo4 hb11 hW11 hU11 hU9 hB3 HA4 HW10 h10 hsz9 t0 t1 t2 t3 t4 t5 t6 t7 b0 b1 b2 b3 b4 b5 hg1 hgb
        by_cases e3 : er3 = 0
        · have f3 : (er3 != 0) = false := nef e3
          by_cases e4 : er4 = 0
          · have f4 : (er4 != 0) = false := nef e4
            subst e3 e4
            have hG3 : M3 = appl M1 o := by rw [← HM3.out]; exact appM_ok HE3.out
            have hG4 : M4 = appl M2 d := by rw [← HM4.out]; exact appM_ok HE4.out
            have heq : M3 = M4 := by
              have h3 := HE3.out
              have h4 := HE4.out
              rw [HQ1.out] at h3
              rw [HQ2.out] at h4
              rw [hG3, hG4, HQ1.out, HQ2.out]
              exact swap_law HNe.out HK.out HE1.out HE2.out h3 h4
            have HG3 : Hid (Mf.Good M3) := Lib.hid (by rw [hG3]; exact app_good HE3.out HX1.out.1 HX1.out.2.1 HOo.out HSO.out)
            have HG4 : Hid (Mf.Good M4) := Lib.hid (by rw [hG4]; exact app_good HE4.out HX2.out.1 HX2.out.2.1 HOd.out HSD.out)
            have hb12 : Below w11.heap.size w11 (w11.alloc (.cells #[.int .i64 M4.gen, .int .i64 M4.cut, .int .i64 M4.fence, .slice VE M4.E.length vE, .slice VM M4.M.length vM, .slice VO M4.O.length vO] 26)) := (Below.refl w11.heap.size w11).alloc (Nat.le_refl _) _
            have HSm : Hid (Calls Try.prog 10 #[mdV M3 ⟨UE, uE, UM, uM, UO, uO⟩, mdV M4 ⟨VE, vE, VM, vM, VO, vO⟩] (w11.alloc (.cells #[.int .i64 M4.gen, .int .i64 M4.cut, .int .i64 M4.fence, .slice VE M4.E.length vE, .slice VM M4.M.length vM, .slice VO M4.O.length vO] 26)) fun e w' => e = .returned (.bool true) ∧ Below w11.heap.size w11 w') := Lib.hid (by
              refine (sameM_calls _ (((Mow.good HMo3.out HG3.out).below HU9.out).below (hb12.mono HU9.out.size)) ((Mow.good HMo4.out HG4.out).below hb12) (by simp; omega) (by simp)).mono ?_
              rintro e w' ⟨rfl, hb⟩
              exact ⟨by rw [show sameM M3 M4 = true from dct heq], hb12.trans (hb.mono (by simp))⟩)
            clear hG3 hG4 heq hb12
            go_wp2_with fail
            refine HSm.out.mono ?_
            rintro e w12 ⟨rfl, hb12⟩
            go_wp2
            go_ret
            exact ⟨rfl, h11.1.trans (hb12.mono h11.1.size)⟩
          · have f4 : (er4 != 0) = true := net e4
            clear e3 e4
            go_wp2
            go_ret
            exact ⟨rfl, h11.1.alloc h11.1.size _⟩
        · have f3 : (er3 != 0) = true := net e3
          clear e3
          go_wp2
          go_ret
          exact ⟨rfl, h11.1.alloc h11.1.size _⟩
      · have f2 : (er2 != 0) = true := net e2
        clear e1 e2
        go_wp2
        go_ret
        exact ⟨rfl, h7.1.alloc h7.1.size _⟩
    · have f1 : (er1 != 0) = true := net e1
      clear e1
      go_wp2
      go_ret
      exact ⟨rfl, h7.1.alloc h7.1.size _⟩
theorem walk {H : Type} {enc : TypeId × Value → H} {W : World} {base : Nat} {v0 v1 v2 : Value} {d0 d1 d2 : DataW H} {p0 p1 p2 : List MemPlace} (hsh : W.ShapedOpen Try.prog) (g0 : Arg enc Try.prog W base 26 v0 d0 p0) (g1 : Arg enc Try.prog W base 31 v1 d1 p1) (g2 : Arg enc Try.prog W base 31 v2 d2 p2) :
    Calls Try.prog 3 #[v0, v1, v2] W fun e w' => e = .returned (.bool true) ∧ Below W.heap.size W w' := by
  obtain ⟨m, p, rfl, hm⟩ := arg_man g0
  obtain ⟨x, q, rfl, hx⟩ := arg_edit g1
  obtain ⟨y, r, rfl, hy⟩ := arg_edit g2
  exact body W hm hx hy (Nat.le_refl _) (var0 hsh)
end Go.Proofs.Ytjbmlhipjceeeaa.lawManifestSwaps
