/- RecordSplits: the walk. -/
import Derived.Test.YtennddlihcamnaaProg
import Derived.Test.YtennddlihcamnaaSpE
import Derived.Test.YtennddlihcamnaaRecH
namespace Go.Proofs.Ytennddlihcamnaa.lawRecordSplits
set_option linter.unusedVariables false
set_option linter.unusedSimpArgs false
open Go.RowKit Go.Proofs.Ytennddlihcamnaa Go.Proofs.Ytennddlihcamnaa.So Go.Proofs.Ytennddlihcamnaa.Sp

set_option maxRecDepth 100000 in
set_option maxHeartbeats 3200000 in
theorem noWindow (w : World) {B B2 c cb : Nat} {A Ab : Option Addr} {l : List Rw} {by_ : List ByteArray} {win : Int} (h : Rows w B A l) (hB : B ≤ w.heap.size) (hn : l.length ≤ 60) (h2 : Strs w B2 Ab by_) (hB2 : B2 ≤ w.heap.size) (hn2 : by_.length ≤ 20) (hw : win < 1) :
    Calls Try.prog 7 #[.slice A l.length c, .int .i64 win, .slice Ab by_.length cb] w fun e w' => e = .returned (.bool true) ∧ Below w.heap.size w w' := by
  have dw : decide (win < 1) = true := dct hw
  have d60 : decide ((60 : Int) < (l.length : Int)) = false := dcf (by omega)
  have d20 : decide ((20 : Int) < (by_.length : Int)) = false := dcf (by omega)
  have HR := Lib.hid h
  have HF := Lib.hid h.fits
  have HST := Lib.hid h2
  clear h h2
  go_enter Try.func7, Try.ntmps7
  go_wp2_with fail
  refine (lives_calls w).mono ?_
  rintro e w1 ⟨rfl, hb1⟩
  have HT := Lib.hid (twinsR_calls w1 (c := c) (HR.out.below (hb1.mono hB)) (by have := hb1.size; omega) (by omega))
  go_wp2_with fail
  refine HT.out.mono ?_
  rintro e w2 ⟨A2, c2, d2, rfl, hl2, hs2, ho2, hb2⟩
  have hb02 := hb1.trans (hb2.mono hb1.size)
  have hf2 : ∀ x ∈ d2, FitW x := SameL.fits hs2.symm HF.out
  have HO2 : Hid (Rows w2 w2.heap.size A2 d2) := Lib.hid (by
    have := ho2
    rw [← hl2] at this
    exact this.rows hf2)
  have HL2 := Lib.hid hl2
  have HSM2 := Lib.hid hs2
  have HB02 := Lib.hid hb02
  clear HT hb1 hb2 ho2 hf2 hl2 hs2 hb02
  go_wp2_with fail
  refine (split_none w2 hw).mono ?_
  rintro e w3 ⟨rfl, hb3⟩
  have HB3 := Lib.hid hb3
  clear hb3
  have HS2 : Hid (Calls Try.prog 16 #[.slice A2 l.length c2, .slice A l.length c] w3 fun e w' => e = .returned (.bool true) ∧ Below w3.heap.size w3 w') := Lib.hid (by
    have hsz := HB02.out.size
    have hsz3 := HB3.out.size
    have := sameRowsL_calls w3 (c1 := c2) (c2 := c) (HO2.out.below HB3.out) ((HR.out.below (HB02.out.mono hB)).below (HB3.out.mono (by omega))) hsz3 (by omega) HSM2.out (by rw [HL2.out]; omega)
    rw [HL2.out] at this
    exact this)
  go_wp2_with fail
  refine HS2.out.mono ?_
  rintro e w4 ⟨rfl, hb4⟩
  have HB34 : Hid (Below w2.heap.size w2 w4) := Lib.hid (HB3.out.trans (hb4.mono HB3.out.size))
  have HB04 : Hid (Below w.heap.size w w4) := Lib.hid (HB02.out.trans (HB34.out.mono HB02.out.size))
  clear hb4
  go_wp2
  go_ret
  exact ⟨rfl, HB04.out⟩
set_option maxRecDepth 100000 in
set_option maxHeartbeats 3200000 in
theorem notRight (w : World) {B B2 c cb : Nat} {A Ab : Option Addr} {l : List Rw} {by_ : List ByteArray} {win : Int} (h : Rows w B A l) (hB : B ≤ w.heap.size) (hn : l.length ≤ 60) (h2 : Strs w B2 Ab by_) (hB2 : B2 ≤ w.heap.size) (hn2 : by_.length ≤ 20) (hw : 1 ≤ win) (hw9 : win ≤ 9223372036854775807) (hri : rightL l = false) :
    Calls Try.prog 7 #[.slice A l.length c, .int .i64 win, .slice Ab by_.length cb] w fun e w' => e = .returned (.bool true) ∧ Below w.heap.size w w' := by
  have dw : decide (win < 1) = false := dcf (by omega)
  have d60 : decide ((60 : Int) < (l.length : Int)) = false := dcf (by omega)
  have d20 : decide ((20 : Int) < (by_.length : Int)) = false := dcf (by omega)
  have HR := Lib.hid h
  have HF := Lib.hid h.fits
  have HST := Lib.hid h2
  clear h h2
  go_enter Try.func7, Try.ntmps7
  go_wp2_with fail
  refine (lives_calls w).mono ?_
  rintro e w1 ⟨rfl, hb1⟩
  have HT := Lib.hid (twinsR_calls w1 (c := c) (HR.out.below (hb1.mono hB)) (by have := hb1.size; omega) (by omega))
  go_wp2_with fail
  refine HT.out.mono ?_
  rintro e w2 ⟨A2, c2, d2, rfl, hl2, hs2, ho2, hb2⟩
  have hb02 := hb1.trans (hb2.mono hb1.size)
  have hf2 : ∀ x ∈ d2, FitW x := SameL.fits hs2.symm HF.out
  have HO2 : Hid (Rows w2 w2.heap.size A2 d2) := Lib.hid (by
    have := ho2
    rw [← hl2] at this
    exact this.rows hf2)
  have HL2 := Lib.hid hl2
  have HSM2 := Lib.hid hs2
  have HB02 := Lib.hid hb02
  clear HT hb1 hb2 ho2 hf2 hl2 hs2 hb02
  have HSP := Lib.hid (split_calls w2 (c := c2) (c2 := cb) HO2.out (Nat.le_refl _) (by have := HL2.out; omega) (HST.out.below (HB02.out.mono hB2)) (by have := HB02.out.size; omega) (by omega) hw hw9)
  rw [HL2.out] at HSP
  go_wp2_with fail
  refine HSP.out.mono ?_
  rintro e w3 ⟨A3, c3, g1, d3, rfl, -, -, -, -, hb3⟩
  have HB3 := Lib.hid hb3
  clear hb3 HSP
  have HS2 : Hid (Calls Try.prog 16 #[.slice A2 l.length c2, .slice A l.length c] w3 fun e w' => e = .returned (.bool true) ∧ Below w3.heap.size w3 w') := Lib.hid (by
    have hsz := HB02.out.size
    have hsz3 := HB3.out.size
    have := sameRowsL_calls w3 (c1 := c2) (c2 := c) (HO2.out.below HB3.out) ((HR.out.below (HB02.out.mono hB)).below (HB3.out.mono (by omega))) hsz3 (by omega) HSM2.out (by rw [HL2.out]; omega)
    rw [HL2.out] at this
    exact this)
  go_wp2_with fail
  refine HS2.out.mono ?_
  rintro e w4 ⟨rfl, hb4⟩
  have HB34 : Hid (Below w2.heap.size w2 w4) := Lib.hid (HB3.out.trans (hb4.mono HB3.out.size))
  have HB04 : Hid (Below w.heap.size w w4) := Lib.hid (HB02.out.trans (HB34.out.mono HB02.out.size))
  clear hb4
  have HRL := Lib.hid (rightL_calls w4 (c := c) ((HR.out.below (HB04.out.mono hB))) (by have := HB04.out.size; omega) (by omega))
  rw [hri] at HRL
  go_wp2_with fail
  refine HRL.out.mono ?_
  rintro e w5 ⟨rfl, hb5⟩
  have HB05 : Hid (Below w.heap.size w w5) := Lib.hid (HB04.out.trans (hb5.mono HB04.out.size))
  clear hb5
  go_wp2
  go_ret
  exact ⟨rfl, HB05.out⟩
set_option maxRecDepth 100000 in
set_option maxHeartbeats 6400000 in
theorem body (w : World) {B B2 c cb : Nat} {A Ab : Option Addr} {l : List Rw} {by_ : List ByteArray} {win : Int} (h : Rows w B A l) (hB : B ≤ w.heap.size) (hn : l.length ≤ 60) (h2 : Strs w B2 Ab by_) (hB2 : B2 ≤ w.heap.size) (hn2 : by_.length ≤ 20) (hw : 1 ≤ win) (hw9 : win ≤ 9223372036854775807) (hri : rightL l = true) :
    Calls Try.prog 7 #[.slice A l.length c, .int .i64 win, .slice Ab by_.length cb] w fun e w' => e = .returned (.bool true) ∧ Below w.heap.size w w' := by
  have dw : decide (win < 1) = false := dcf (by omega)
  have d60 : decide ((60 : Int) < (l.length : Int)) = false := dcf (by omega)
  have d20 : decide ((20 : Int) < (by_.length : Int)) = false := dcf (by omega)
  have HR := Lib.hid h
  have HF := Lib.hid h.fits
  have HST := Lib.hid h2
  clear h h2
  go_enter Try.func7, Try.ntmps7
  go_wp2_with fail
  refine (lives_calls w).mono ?_
  rintro e w1 ⟨rfl, hb1⟩
  have HT := Lib.hid (twinsR_calls w1 (c := c) (HR.out.below (hb1.mono hB)) (by have := hb1.size; omega) (by omega))
  go_wp2_with fail
  refine HT.out.mono ?_
  rintro e w2 ⟨A2, c2, d2, rfl, hl2, hs2, ho2, hb2⟩
  have hb02 := hb1.trans (hb2.mono hb1.size)
  have hf2 : ∀ x ∈ d2, FitW x := SameL.fits hs2.symm HF.out
  have HO2 : Hid (Rows w2 w2.heap.size A2 d2) := Lib.hid (by
    have := ho2
    rw [← hl2] at this
    exact this.rows hf2)
  have HL2 := Lib.hid hl2
  have HSM2 := Lib.hid hs2
  have HB02 := Lib.hid hb02
  clear HT hb1 hb2 ho2 hf2 hl2 hs2 hb02
  have HSP := Lib.hid (split_calls w2 (c := c2) (c2 := cb) HO2.out (Nat.le_refl _) (by have := HL2.out; omega) (HST.out.below (HB02.out.mono hB2)) (by have := HB02.out.size; omega) (by omega) hw hw9)
  rw [HL2.out] at HSP
  go_wp2_with fail
  refine HSP.out.mono ?_
  rintro e w3 ⟨A3, c3, g1, d3, rfl, hsm3, hlb3, hgs3, hgk3, hb3⟩
  have HB3 := Lib.hid hb3
  have HSM3 : Hid (SameL d3 (isort (Sr.ltc cfR) l)) := Lib.hid (Eq.trans hsm3 (SameL.sorted HSM2.out))
  have HFS : Hid (∀ x ∈ isort (Sr.ltc cfR) l, FitW x) := Lib.hid fun x hx => HF.out x ((isort_perm l).mem_iff.1 hx)
  have HFD : Hid (∀ x ∈ d3, FitW x) := Lib.hid (SameL.fits (Eq.symm HSM3.out) HFS.out)
  have HG1 := Lib.hid hgs3
  have HK1 := Lib.hid hgk3
  have HW1 : Hid (∀ g ∈ g1, Rows w3 w3.heap.size g.A g.rows) := Lib.hid fun g hg => hgs3.reads hg fun x hx => by
    have hm := mem_groups hgk3 hg hx
    have hf := HFD.out x hm
    exact ⟨Reads.of_own (hlb3 x hm), hf.fit, hf.len, hf.text, hf.time, hf.value⟩
  clear hb3 HSP hsm3 hlb3 hgs3 hgk3
  have HS2 : Hid (Calls Try.prog 16 #[.slice A2 l.length c2, .slice A l.length c] w3 fun e w' => e = .returned (.bool true) ∧ Below w3.heap.size w3 w') := Lib.hid (by
    have hsz := HB02.out.size
    have hsz3 := HB3.out.size
    have := sameRowsL_calls w3 (c1 := c2) (c2 := c) (HO2.out.below HB3.out) ((HR.out.below (HB02.out.mono hB)).below (HB3.out.mono (by omega))) hsz3 (by omega) HSM2.out (by rw [HL2.out]; omega)
    rw [HL2.out] at this
    exact this)
  go_wp2_with fail
  refine HS2.out.mono ?_
  rintro e w4 ⟨rfl, hb4⟩
  have HB34 : Hid (Below w2.heap.size w2 w4) := Lib.hid (HB3.out.trans (hb4.mono HB3.out.size))
  have HB04 : Hid (Below w.heap.size w w4) := Lib.hid (HB02.out.trans (HB34.out.mono HB02.out.size))
  have HB4 : Hid (Below w3.heap.size w3 w4) := Lib.hid hb4
  clear hb4 HS2 HO2 HL2 HSM2 HB34 HFD
  have HRL := Lib.hid (rightL_calls w4 (c := c) ((HR.out.below (HB04.out.mono hB))) (by have := HB04.out.size; omega) (by omega))
  rw [hri] at HRL
  go_wp2_with fail
  refine HRL.out.mono ?_
  rintro e w5 ⟨rfl, hb5⟩
  have HB05 : Hid (Below w.heap.size w w5) := Lib.hid (HB04.out.trans (hb5.mono HB04.out.size))
  have HB5 : Hid (Below w3.heap.size w3 w5) := Lib.hid (HB4.out.trans (hb5.mono HB4.out.size))
  clear hb5 HRL HB04 HB4
  have HRS := Lib.hid (splitR_calls w5 (c := c) (c2 := cb) (HR.out.below (HB05.out.mono hB)) (by have := HB05.out.size; omega) (by omega) (HST.out.below (HB05.out.mono hB2)) (by have := HB05.out.size; omega) (by omega) hw hw9 (rightL_labs hri))
  go_wp2_with fail
  refine HRS.out.mono ?_
  rintro e w6 ⟨A6, c6, g2, rfl, hgr6, hgk6, hb6⟩
  have HB06 : Hid (Below w.heap.size w w6) := Lib.hid (HB05.out.trans (hb6.mono HB05.out.size))
  have HB6 : Hid (Below w3.heap.size w3 w6) := Lib.hid (HB5.out.trans (hb6.mono HB5.out.size))
  obtain ⟨hlen, heach⟩ := same_groups HSM3.out HK1.out hgk6
  have HEA := Lib.hid heach
  have HG2 := Lib.hid hgr6
  have HW2 : Hid (∀ g ∈ g2, Rows w6 w6.heap.size g.A g.rows) := Lib.hid fun g hg => (hgr6.own (List.length_pos_of_mem hg)).reads hg fun x hx => by
    have hm := (isort_perm l).mem_iff.1 (mem_groups hgk6 hg hx)
    exact ((HR.out.each x hm).below (HB06.out.mono hB)).more (by have := HB06.out.size; omega)
  have HLen := Lib.hid hlen
  have dl : ((g1.length : Int) != (g2.length : Int)) = false := nef (by omega)
  have hgl : g1.length ≤ 60 := by
    have h1 := (foldR_len (k := d3.length) (by rw [List.take_length]; exact HK1.out)).1
    have h2 := HSM3.out.len
    rw [isort_len] at h2
    omega
  have HFL : Hid (∀ g ∈ g1, g.rows.length ≤ 60) := Lib.hid fun g hg => by
    have h1 := (foldR_len (k := d3.length) (by rw [List.take_length]; exact HK1.out)).2 g hg
    have h2 := HSM3.out.len
    rw [isort_len] at h2
    omega
  clear hb6 HRS heach hgr6 hgk6 HB05 HB5 HSM3 HFS HK1
  go_wp2
  go_loopw [52] (fun vi wr => ∃ i : Nat, i ≤ g1.length ∧ vi = .int .i64 (i : Int) ∧ Hid (Below w6.heap.size w6 wr)) (fun vi _ => g1.length - (intOf vi).toNat)
  case atStart => exact ⟨0, Nat.zero_le _, rfl, Lib.hid (Below.refl _ _)⟩
  case round =>
    obtain ⟨i, hi, rfl, HBr⟩ := hrel
    by_cases hlt : i < g1.length
    · have hlt2 : i < g2.length := by omega
      obtain ⟨ga, hA3, hga⟩ := HG1.out.addr (by omega)
      obtain ⟨gb, hA6⟩ := HG2.out.at_
      have hs6 := HB6.out.size
      have hsr := HBr.out.size
      have h3r : Below w3.heap.size w3 wr := HB6.out.trans (HBr.out.mono hs6)
      have Hk : Hid (∀ W, Below wr.heap.size wr W → At3 W ga i (g1[i]'hlt) ∧ At3 W gb i (g2[i]'hlt2)) := Lib.hid fun W hW => ⟨reads3 ((Reads.of_own HG1.out.out).below (h3r.trans (hW.mono (by omega)))) hA3 hlt, reads3 (HG2.out.rd.below (HBr.out.trans (hW.mono hsr))) hA6 hlt2⟩
      have HSR := Lib.hid fun W (hW : Below wr.heap.size wr W) => sameRowsL_calls W (c1 := (g1[i]'hlt).c) (c2 := (g2[i]'hlt2).c) ((HW1.out _ (List.getElem_mem hlt)).below (h3r.trans (hW.mono (by omega)))) ((HW2.out _ (List.getElem_mem hlt2)).below (HBr.out.trans (hW.mono hsr))) (by have := hW.size; omega) (by have := hW.size; omega) ((HEA.out i hlt hlt2).2.2) (by have := HFL.out _ (List.getElem_mem hlt); omega)
      have HE := Lib.hid (HEA.out i hlt hlt2)
      obtain ⟨x, hx⟩ : ∃ x, x = g1[i]'hlt := ⟨_, rfl⟩
      obtain ⟨y, hy⟩ : ∃ y, y = g2[i]'hlt2 := ⟨_, rfl⟩
      simp only [← hx, ← hy] at Hk HSR HE
      clear hx hy h3r
      obtain ⟨xw, xp, xA, xc, xl⟩ := x
      obtain ⟨yw, yp, yA, yc, yl⟩ := y
      obtain ⟨rfl, rfl, hsl⟩ := HE.out
      dsimp only at HSR
      have HKeep : Hid (∀ W, Below wr.heap.size wr W → (W.cell? ⟨ga, i * 3, none⟩ = some (.int .i64 xw) ∧ W.cell? ⟨ga, i * 3 + 1, none⟩ = some (.string xp) ∧ W.cell? ⟨ga, i * 3 + 2, none⟩ = some (.slice xA xl.length xc)) ∧ W.cell? ⟨gb, i * 3, none⟩ = some (.int .i64 xw) ∧ W.cell? ⟨gb, i * 3 + 1, none⟩ = some (.string xp) ∧ W.cell? ⟨gb, i * 3 + 2, none⟩ = some (.slice yA yl.length yc)) := Lib.hid Hk.out
      clear Hk HE hsl
      have i0 : (0 : Int) ≤ (i : Int) := by omega
      have i9 : (i : Int) < (g1.length : Int) := by omega
      have i8 : (i : Int) < (g2.length : Int) := by omega
      have nz : (xw != xw) = false := nef rfl
      have ns : (xp.toList == xp.toList) = true := by simp
      subst hA3 hA6
      go_wp2_with fail
      have HW0 : Hid (Below wr.heap.size wr wr.drew) := Lib.hid (below_drewN_ (Below.refl _ _) 1)
      refine wp_region_T 99 (fun w' => (w'.cell? ⟨ga, i * 3, none⟩ = some (.int .i64 xw) ∧ w'.cell? ⟨ga, i * 3 + 1, none⟩ = some (.string xp) ∧ w'.cell? ⟨ga, i * 3 + 2, none⟩ = some (.slice xA xl.length xc)) ∧ w'.cell? ⟨gb, i * 3, none⟩ = some (.int .i64 xw) ∧ w'.cell? ⟨gb, i * 3 + 1, none⟩ = some (.string xp) ∧ w'.cell? ⟨gb, i * 3 + 2, none⟩ = some (.slice yA yl.length yc)) (by kernel_rfl) (HKeep.out _ HW0.out) (fun hHeld => ?_)
      generalize wr.drew = u0 at *
      refine wpAnyT_take (i := 0) (oi := _) (v := ?_) rfl (by kernel_rfl) (fun _ _ _ h => h) (Or.inl ⟨by kernel_rfl, ?_⟩) (by assumption) ?_; rotate_left; (focus (intro w hSw; (try dsimp only at hSw); go_simp; (try with_reducible rfl))); (try simp only [Act.put, List.getElem_toArray, List.getElem_cons_zero, List.setIfInBounds_toArray, List.set_cons_zero, List.set_cons_succ])
      refine wpAnyT_take (i := 1) (oi := _) (v := ?_) rfl (by kernel_rfl) (fun _ _ _ h => h) (Or.inl ⟨by kernel_rfl, ?_⟩) (by assumption) ?_; rotate_left; (focus (intro w hSw; (try dsimp only at hSw); go_simp; (try with_reducible rfl))); (try simp only [Act.put, List.getElem_toArray, List.getElem_cons_zero, List.getElem_cons_succ, List.setIfInBounds_toArray, List.set_cons_zero, List.set_cons_succ])
      refine wpAnyT_take (i := 2) (oi := _) (v := ?_) rfl (by kernel_rfl) (fun _ _ _ h => h) (Or.inl ⟨by kernel_rfl, ?_⟩) (by assumption) ?_; rotate_left; (focus (intro w hSw; (try dsimp only at hSw); go_simp; (try with_reducible rfl))); (try simp only [Act.put, List.getElem_toArray, List.getElem_cons_zero, List.getElem_cons_succ, List.setIfInBounds_toArray, List.set_cons_zero, List.set_cons_succ])
      refine wpAnyT_take (i := 3) (oi := _) (v := ?_) rfl (by kernel_rfl) (fun _ _ _ h => h) (Or.inl ⟨by kernel_rfl, ?_⟩) (by assumption) ?_; rotate_left; (focus (intro w hSw; (try dsimp only at hSw); go_simp; (try with_reducible rfl))); (try simp only [Act.put, List.getElem_toArray, List.getElem_cons_zero, List.getElem_cons_succ, List.setIfInBounds_toArray, List.set_cons_zero, List.set_cons_succ])
      refine wpAnyT_take (i := 4) (oi := _) (v := ?_) rfl (by kernel_rfl) (fun _ _ _ h => h) (Or.inl ⟨by kernel_rfl, ?_⟩) (by assumption) ?_; rotate_left; (focus (intro w hSw; (try dsimp only at hSw); go_simp; (try with_reducible rfl))); (try simp only [Act.put, List.getElem_toArray, List.getElem_cons_zero, List.getElem_cons_succ, List.setIfInBounds_toArray, List.set_cons_zero, List.set_cons_succ])
      refine wpAnyT_take (i := 5) (oi := _) (v := ?_) rfl (by kernel_rfl) (fun _ _ _ h => h) (Or.inl ⟨by kernel_rfl, ?_⟩) (by assumption) ?_; rotate_left; (focus (intro w hSw; (try dsimp only at hSw); go_simp; (try with_reducible rfl))); (try simp only [Act.put, List.getElem_toArray, List.getElem_cons_zero, List.getElem_cons_succ, List.setIfInBounds_toArray, List.set_cons_zero, List.set_cons_succ])
      refine wpAnyT_take (i := 6) (oi := _) (v := ?_) rfl (by kernel_rfl) (fun _ _ _ h => h) (Or.inl ⟨by kernel_rfl, ?_⟩) (by assumption) ?_; rotate_left; (focus (intro w hSw; (try dsimp only at hSw); go_simp; (try with_reducible rfl))); (try simp only [Act.put, List.getElem_toArray, List.getElem_cons_zero, List.getElem_cons_succ, List.setIfInBounds_toArray, List.set_cons_zero, List.set_cons_succ])
      refine wpAnyT_take (i := 7) (oi := _) (v := ?_) rfl (by kernel_rfl) (fun _ _ _ h => h) (Or.inl ⟨by kernel_rfl, ?_⟩) (by assumption) ?_; rotate_left; (focus (intro w hSw; (try dsimp only at hSw); go_simp; (try with_reducible rfl))); (try simp only [Act.put, List.getElem_toArray, List.getElem_cons_zero, List.getElem_cons_succ, List.setIfInBounds_toArray, List.set_cons_zero, List.set_cons_succ])
      refine wpAnyT_take (i := 8) (oi := _) (v := ?_) rfl (by kernel_rfl) (fun _ _ _ h => h) (Or.inl ⟨by kernel_rfl, ?_⟩) (by assumption) ?_; rotate_left; (focus (intro w hSw; (try dsimp only at hSw); go_simp; (try with_reducible rfl))); (try simp only [Act.put, List.getElem_toArray, List.getElem_cons_zero, List.getElem_cons_succ, List.setIfInBounds_toArray, List.set_cons_zero, List.set_cons_succ])
      refine wpAnyT_take (i := 9) (oi := _) (v := ?_) rfl (by kernel_rfl) (fun _ _ _ h => h) (Or.inl ⟨by kernel_rfl, ?_⟩) (by assumption) ?_; rotate_left; (focus (intro w hSw; (try dsimp only at hSw); go_simp; (try with_reducible rfl))); (try simp only [Act.put, List.getElem_toArray, List.getElem_cons_zero, List.getElem_cons_succ, List.setIfInBounds_toArray, List.set_cons_zero, List.set_cons_succ])
      refine wpAnyT_take (i := 10) (oi := _) (v := ?_) rfl (by kernel_rfl) (fun _ _ _ h => h) (Or.inl ⟨by kernel_rfl, ?_⟩) (by assumption) ?_; rotate_left; (focus (intro w hSw; (try dsimp only at hSw); go_simp; (try with_reducible rfl))); (try simp only [Act.put, List.getElem_toArray, List.getElem_cons_zero, List.getElem_cons_succ, List.setIfInBounds_toArray, List.set_cons_zero, List.set_cons_succ])
      refine wpAnyT_take (i := 11) (oi := _) (v := ?_) rfl (by kernel_rfl) (fun _ _ _ h => h) (Or.inl ⟨by kernel_rfl, ?_⟩) (by assumption) ?_; rotate_left; (focus (intro w hSw; (try dsimp only at hSw); go_simp; (try with_reducible rfl))); (try simp only [Act.put, List.getElem_toArray, List.getElem_cons_zero, List.getElem_cons_succ, List.setIfInBounds_toArray, List.set_cons_zero, List.set_cons_succ])
      refine wpAnyT_take (i := 12) (oi := _) (v := ?_) rfl (by kernel_rfl) (fun _ _ _ h => h) (Or.inl ⟨by kernel_rfl, ?_⟩) (by assumption) ?_; rotate_left; (focus (intro w hSw; (try dsimp only at hSw); go_simp; (try with_reducible rfl))); (try simp only [Act.put, List.getElem_toArray, List.getElem_cons_zero, List.getElem_cons_succ, List.setIfInBounds_toArray, List.set_cons_zero, List.set_cons_succ])
      refine wpAnyT_take (i := 13) (oi := _) (v := ?_) rfl (by kernel_rfl) (fun _ _ _ h => h) (Or.inl ⟨by kernel_rfl, ?_⟩) (by assumption) ?_; rotate_left; (focus (intro w hSw; (try dsimp only at hSw); go_simp; (try with_reducible rfl))); (try simp only [Act.put, List.getElem_toArray, List.getElem_cons_zero, List.getElem_cons_succ, List.setIfInBounds_toArray, List.set_cons_zero, List.set_cons_succ])
      refine wpAnyT_take (i := 14) (oi := _) (v := ?_) rfl (by kernel_rfl) (fun _ _ _ h => h) (Or.inl ⟨by kernel_rfl, ?_⟩) (by assumption) ?_; rotate_left; (focus (intro w hSw; (try dsimp only at hSw); go_simp; (try with_reducible rfl))); (try simp only [Act.put, List.getElem_toArray, List.getElem_cons_zero, List.getElem_cons_succ, List.setIfInBounds_toArray, List.set_cons_zero, List.set_cons_succ])
      refine wpAnyT_take (i := 15) (oi := _) (v := ?_) rfl (by kernel_rfl) (fun _ _ _ h => h) (Or.inl ⟨by kernel_rfl, ?_⟩) (by assumption) ?_; rotate_left; (focus (intro w hSw; (try dsimp only at hSw); go_simp; (try with_reducible rfl))); (try simp only [Act.put, List.getElem_toArray, List.getElem_cons_zero, List.getElem_cons_succ, List.setIfInBounds_toArray, List.set_cons_zero, List.set_cons_succ])
      refine wpAnyT_take (i := 16) (oi := _) (v := ?_) rfl (by kernel_rfl) (fun _ _ _ h => h) (Or.inl ⟨by kernel_rfl, ?_⟩) (by assumption) ?_; rotate_left; (focus (intro w hSw; (try dsimp only at hSw); go_simp; (try with_reducible rfl))); (try simp only [Act.put, List.getElem_toArray, List.getElem_cons_zero, List.getElem_cons_succ, List.setIfInBounds_toArray, List.set_cons_zero, List.set_cons_succ])
      refine wpAnyT_take (i := 17) (oi := _) (v := ?_) rfl (by kernel_rfl) (fun _ _ _ h => h) (Or.inl ⟨by kernel_rfl, ?_⟩) (by assumption) ?_; rotate_left; (focus (intro w hSw; (try dsimp only at hSw); go_simp; (try with_reducible rfl))); (try simp only [Act.put, List.getElem_toArray, List.getElem_cons_zero, List.getElem_cons_succ, List.setIfInBounds_toArray, List.set_cons_zero, List.set_cons_succ])
      refine wpAnyT_take (i := 18) (oi := _) (v := ?_) rfl (by kernel_rfl) (fun _ _ _ h => h) (Or.inl ⟨by kernel_rfl, ?_⟩) (by assumption) ?_; rotate_left; (focus (intro w hSw; (try dsimp only at hSw); go_simp; (try with_reducible rfl))); (try simp only [Act.put, List.getElem_toArray, List.getElem_cons_zero, List.getElem_cons_succ, List.setIfInBounds_toArray, List.set_cons_zero, List.set_cons_succ])
      refine wpAnyT_take (i := 19) (oi := _) (v := ?_) rfl (by kernel_rfl) (fun _ _ _ h => h) (Or.inl ⟨by kernel_rfl, ?_⟩) (by assumption) ?_; rotate_left; (focus (intro w hSw; (try dsimp only at hSw); go_simp; (try with_reducible rfl))); (try simp only [Act.put, List.getElem_toArray, List.getElem_cons_zero, List.getElem_cons_succ, List.setIfInBounds_toArray, List.set_cons_zero, List.set_cons_succ])
      refine wpAnyT_take (i := 20) (oi := _) (v := ?_) rfl (by kernel_rfl) (fun _ _ _ h => h) (Or.inl ⟨by kernel_rfl, ?_⟩) (by assumption) ?_; rotate_left; (focus (intro w hSw; (try dsimp only at hSw); go_simp; (try with_reducible rfl))); (try simp only [Act.put, List.getElem_toArray, List.getElem_cons_zero, List.getElem_cons_succ, List.setIfInBounds_toArray, List.set_cons_zero, List.set_cons_succ])
      refine wpAnyT_take (i := 21) (oi := _) (v := ?_) rfl (by kernel_rfl) (fun _ _ _ h => h) (Or.inl ⟨by kernel_rfl, ?_⟩) (by assumption) ?_; rotate_left; (focus (intro w hSw; (try dsimp only at hSw); go_simp; (try with_reducible rfl))); (try simp only [Act.put, List.getElem_toArray, List.getElem_cons_zero, List.getElem_cons_succ, List.setIfInBounds_toArray, List.set_cons_zero, List.set_cons_succ])
      refine wpAnyT_take (i := 22) (oi := _) (v := ?_) rfl (by kernel_rfl) (fun _ _ _ h => h) (Or.inl ⟨by kernel_rfl, ?_⟩) (by assumption) ?_; rotate_left; (focus (intro w hSw; (try dsimp only at hSw); go_simp; (try with_reducible rfl))); (try simp only [Act.put, List.getElem_toArray, List.getElem_cons_zero, List.getElem_cons_succ, List.setIfInBounds_toArray, List.set_cons_zero, List.set_cons_succ])
      refine wpAnyT_take (i := 23) (oi := _) (v := ?_) rfl (by kernel_rfl) (fun _ _ _ h => h) (Or.inl ⟨by kernel_rfl, ?_⟩) (by assumption) ?_; rotate_left; (focus (intro w hSw; (try dsimp only at hSw); go_simp; (try with_reducible rfl))); (try simp only [Act.put, List.getElem_toArray, List.getElem_cons_zero, List.getElem_cons_succ, List.setIfInBounds_toArray, List.set_cons_zero, List.set_cons_succ])
      refine wpAnyT_take (i := 24) (oi := _) (v := ?_) rfl (by kernel_rfl) (fun _ _ _ h => h) (Or.inl ⟨by kernel_rfl, ?_⟩) (by assumption) ?_; rotate_left; (focus (intro w hSw; (try dsimp only at hSw); go_simp; (try with_reducible rfl))); (try simp only [Act.put, List.getElem_toArray, List.getElem_cons_zero, List.getElem_cons_succ, List.setIfInBounds_toArray, List.set_cons_zero, List.set_cons_succ])
      refine wpAnyT_take (i := 25) (oi := _) (v := ?_) rfl (by kernel_rfl) (fun _ _ _ h => h) (Or.inl ⟨by kernel_rfl, ?_⟩) (by assumption) ?_; rotate_left; (focus (intro w hSw; (try dsimp only at hSw); go_simp; (try with_reducible rfl))); (try simp only [Act.put, List.getElem_toArray, List.getElem_cons_zero, List.getElem_cons_succ, List.setIfInBounds_toArray, List.set_cons_zero, List.set_cons_succ])
      refine wpAnyT_take (i := 26) (oi := _) (v := ?_) rfl (by kernel_rfl) (fun _ _ _ h => h) (Or.inl ⟨by kernel_rfl, ?_⟩) (by assumption) ?_; rotate_left; (focus (intro w hSw; (try dsimp only at hSw); go_simp; (try with_reducible rfl))); (try simp only [Act.put, List.getElem_toArray, List.getElem_cons_zero, List.getElem_cons_succ, List.setIfInBounds_toArray, List.set_cons_zero, List.set_cons_succ])
      refine wpAnyT_take (i := 27) (oi := _) (v := ?_) rfl (by kernel_rfl) (fun _ _ _ h => h) (Or.inl ⟨by kernel_rfl, ?_⟩) (by assumption) ?_; rotate_left; (focus (intro w hSw; (try dsimp only at hSw); go_simp; (try with_reducible rfl))); (try simp only [Act.put, List.getElem_toArray, List.getElem_cons_zero, List.getElem_cons_succ, List.setIfInBounds_toArray, List.set_cons_zero, List.set_cons_succ])
      refine wpAnyT_take (i := 28) (oi := _) (v := ?_) rfl (by kernel_rfl) (fun _ _ _ h => h) (Or.inl ⟨by kernel_rfl, ?_⟩) (by assumption) ?_; rotate_left; (focus (intro w hSw; (try dsimp only at hSw); go_simp; (try with_reducible rfl))); (try simp only [Act.put, List.getElem_toArray, List.getElem_cons_zero, List.getElem_cons_succ, List.setIfInBounds_toArray, List.set_cons_zero, List.set_cons_succ])
      refine wpAnyT_take (i := 29) (oi := _) (v := ?_) rfl (by kernel_rfl) (fun _ _ _ h => h) (Or.inl ⟨by kernel_rfl, ?_⟩) (by assumption) ?_; rotate_left; (focus (intro w hSw; (try dsimp only at hSw); go_simp; (try with_reducible rfl))); (try simp only [Act.put, List.getElem_toArray, List.getElem_cons_zero, List.getElem_cons_succ, List.setIfInBounds_toArray, List.set_cons_zero, List.set_cons_succ])
      refine wpAnyT_take (i := 30) (oi := _) (v := ?_) rfl (by kernel_rfl) (fun _ _ _ h => h) (Or.inl ⟨by kernel_rfl, ?_⟩) (by assumption) ?_; rotate_left; (focus (intro w hSw; (try dsimp only at hSw); go_simp; (try with_reducible rfl))); (try simp only [Act.put, List.getElem_toArray, List.getElem_cons_zero, List.getElem_cons_succ, List.setIfInBounds_toArray, List.set_cons_zero, List.set_cons_succ])
      refine wpAnyT_take (i := 31) (oi := _) (v := ?_) rfl (by kernel_rfl) (fun _ _ _ h => h) (Or.inl ⟨by kernel_rfl, ?_⟩) (by assumption) ?_; rotate_left; (focus (intro w hSw; (try dsimp only at hSw); go_simp; (try with_reducible rfl))); (try simp only [Act.put, List.getElem_toArray, List.getElem_cons_zero, List.getElem_cons_succ, List.setIfInBounds_toArray, List.set_cons_zero, List.set_cons_succ])
      refine wpAnyT_take (i := 32) (oi := _) (v := ?_) rfl (by kernel_rfl) (fun _ _ _ h => h) (Or.inl ⟨by kernel_rfl, ?_⟩) (by assumption) ?_; rotate_left; (focus (intro w hSw; (try dsimp only at hSw); go_simp; (try with_reducible rfl))); (try simp only [Act.put, List.getElem_toArray, List.getElem_cons_zero, List.getElem_cons_succ, List.setIfInBounds_toArray, List.set_cons_zero, List.set_cons_succ])
      refine wpAnyT_take (i := 33) (oi := _) (v := ?_) rfl (by kernel_rfl) (fun _ _ _ h => h) (Or.inl ⟨by kernel_rfl, ?_⟩) (by assumption) ?_; rotate_left; (focus (intro w hSw; (try dsimp only at hSw); go_simp; (try with_reducible rfl))); (try simp only [Act.put, List.getElem_toArray, List.getElem_cons_zero, List.getElem_cons_succ, List.setIfInBounds_toArray, List.set_cons_zero, List.set_cons_succ])
      refine wpAnyT_take (i := 34) (oi := _) (v := ?_) rfl (by kernel_rfl) (fun _ _ _ h => h) (Or.inl ⟨by kernel_rfl, ?_⟩) (by assumption) ?_; rotate_left; (focus (intro w hSw; (try dsimp only at hSw); go_simp; (try with_reducible rfl))); (try simp only [Act.put, List.getElem_toArray, List.getElem_cons_zero, List.getElem_cons_succ, List.setIfInBounds_toArray, List.set_cons_zero, List.set_cons_succ])
      refine wpAnyT_one (i := 35) (by kernel_rfl) rfl (fun K hK => ?_); go_simp
      refine (HSR.out u0 HW0.out).mono ?_
      rintro en u1 ⟨rfl, hb7⟩
      have HB7 := Lib.hid (HW0.out.trans (hb7.mono HW0.out.size))
      clear hb7 hHeld
      have hS := HKeep.out _ HB7.out
      refine hK.out _ _ (fun _ => hS) ?_
      clear hK K
      (try simp only [Act.put, List.getElem_toArray, List.getElem_cons_zero, List.getElem_cons_succ, List.setIfInBounds_toArray, List.set_cons_zero, List.set_cons_succ])
      refine wpAnyT_take (i := 36) (oi := _) (v := ?_) rfl (by kernel_rfl) (fun _ _ _ h => h) (Or.inl ⟨by kernel_rfl, ?_⟩) (by assumption) ?_; rotate_left; (focus (intro w hSw; (try dsimp only at hSw); go_simp; (try with_reducible rfl))); (try simp only [Act.put, List.getElem_toArray, List.getElem_cons_zero, List.getElem_cons_succ, List.setIfInBounds_toArray, List.set_cons_zero, List.set_cons_succ])
      refine wpAnyT_take (i := 37) (oi := _) (v := ?_) rfl (by kernel_rfl) (fun _ _ _ h => h) (Or.inl ⟨by kernel_rfl, ?_⟩) (by assumption) ?_; rotate_left; (focus (intro w hSw; (try dsimp only at hSw); go_simp; (try with_reducible rfl))); (try simp only [Act.put, List.getElem_toArray, List.getElem_cons_zero, List.getElem_cons_succ, List.setIfInBounds_toArray, List.set_cons_zero, List.set_cons_succ])
      refine wpAnyT_done (by kernel_rfl) ?_ _
      have HBz : Hid (Below w6.heap.size w6 u1) := Lib.hid (HBr.out.trans (HB7.out.mono hsr))
      go_wp2
      go_roundw
      case rel => exact ⟨i + 1, by omega, by go_num, HBz⟩
      case measure => simp [intOf]; omega
    · obtain rfl : i = g1.length := by omega
      go_wp2
      go_ret
      exact ⟨rfl, HB06.out.trans (HBr.out.mono HB06.out.size)⟩

set_option maxRecDepth 100000 in
set_option maxHeartbeats 1600000 in
theorem long (w : World) {c n c2 n2 : Nat} {A A2 : Option Addr} {win : Int} (h : 60 < n ∨ 20 < n2) :
    Calls Try.prog 7 #[.slice A n c, .int .i64 win, .slice A2 n2 c2] w fun e w' => e = .returned (.bool true) ∧ Below w.heap.size w w' := by
  by_cases h6 : 60 < n
  · have d60 : decide ((60 : Int) < (n : Int)) = true := dct (by omega)
    go_enter Try.func7, Try.ntmps7
    go_wp2_with fail
    refine (lives_calls w).mono ?_
    rintro e w1 ⟨rfl, hb1⟩
    go_wp2_with fail
    refine (lives_calls w1).mono ?_
    rintro e w2 ⟨rfl, hb2⟩
    go_wp2
    go_ret
    exact ⟨rfl, hb1.trans (hb2.mono hb1.size)⟩
  · have d60 : decide ((60 : Int) < (n : Int)) = false := dcf (by omega)
    have d20 : decide ((20 : Int) < (n2 : Int)) = true := dct (by omega)
    go_enter Try.func7, Try.ntmps7
    go_wp2_with fail
    refine (lives_calls w).mono ?_
    rintro e w1 ⟨rfl, hb1⟩
    go_wp2_with fail
    refine (lives_calls w1).mono ?_
    rintro e w2 ⟨rfl, hb2⟩
    go_wp2
    go_ret
    exact ⟨rfl, hb1.trans (hb2.mono hb1.size)⟩

theorem walk {H : Type} {enc : TypeId × Value → H} {W : World} {base : Nat} {v0 v1 v2 : Value} {d0 d1 d2 : DataW H} {p0 p1 p2 : List MemPlace} (g0 : Arg enc Try.prog W base 33 v0 d0 p0) (g1 : Arg enc Try.prog W base 3 v1 d1 p1) (g2 : Arg enc Try.prog W base 46 v2 d2 p2) :
    Calls Try.prog 7 #[v0, v1, v2] W fun e w' => e = .returned (.bool true) ∧ Below W.heap.size W w' := by
  obtain ⟨A, c, l, rfl, _, _, hR⟩ := arg_rows g0
  obtain ⟨win, rfl, -, hn⟩ := g1.int Try.underlying3
  obtain ⟨Ab, cb, by_, rfl, _, _, hS⟩ := arg_strs g2
  have hwf := wf_i64 hn
  by_cases hl : 60 < l.length ∨ 20 < by_.length
  · exact long W hl
  · by_cases hw : win < 1
    · exact noWindow W hR (Nat.le_refl _) (by omega) hS (Nat.le_refl _) (by omega) hw
    · cases hr : rightL l
      · exact notRight W hR (Nat.le_refl _) (by omega) hS (Nat.le_refl _) (by omega) (by omega) (by omega) hr
      · exact body W hR (Nat.le_refl _) (by omega) hS (Nat.le_refl _) (by omega) (by omega) (by omega) hr
end Go.Proofs.Ytennddlihcamnaa.lawRecordSplits
