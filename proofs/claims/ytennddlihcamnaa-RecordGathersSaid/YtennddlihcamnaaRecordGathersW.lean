/- RecordGathers: the walk. -/
import Derived.Test.YtennddlihcamnaaProg
import Derived.Test.YtennddlihcamnaaSpF
import Derived.Test.YtennddlihcamnaaRecH
namespace Go.Proofs.Ytennddlihcamnaa.lawRecordGathers
set_option linter.unusedVariables false
set_option linter.unusedSimpArgs false
open Go.RowKit Go.Proofs.Ytennddlihcamnaa Go.Proofs.Ytennddlihcamnaa.So Go.Proofs.Ytennddlihcamnaa.Sp

theorem same_mem {d m : List Rw} (h : SameL d m) {x : Rw} (hx : x ∈ d) : ∃ y ∈ m, y.logic = x.logic := by
  have h1 : x.logic ∈ m.map Rw.logic := by
    rw [← show d.map Rw.logic = m.map Rw.logic from h]
    exact List.mem_map_of_mem hx
  obtain ⟨y, hy, e⟩ := List.mem_map.1 h1
  exact ⟨y, hy, e⟩
theorem labs_of {x y : Rw} (h : x.logic = y.logic) : x.labs = y.labs := show x.logic.labs = y.logic.labs by rw [h]
theorem flat_app (a b : List Rw) : Sr.flat Rw.c a ++ Sr.flat Rw.c b = Sr.flat Rw.c (a ++ b) := (Sr.flat_app Rw.c a b).symm
theorem take_flat {gs : List (Gp Rw)} {i : Nat} (hi : i < gs.length) : (gs.take (i + 1)).flatMap Gp.rows = (gs.take i).flatMap Gp.rows ++ gs[i].rows := by
  rw [List.take_succ_eq_append_getElem hi, List.flatMap_append]
  simp

set_option maxRecDepth 100000 in
set_option maxHeartbeats 12800000 in
theorem body (w : World) {B B2 c cb : Nat} {A Ab : Option Addr} {l : List Rw} {by_ : List ByteArray} {win : Int} (h : Rows w B A l) (hB : B ≤ w.heap.size) (hn : l.length ≤ 60) (h2 : Strs w B2 Ab by_) (hB2 : B2 ≤ w.heap.size) (hn2 : by_.length ≤ 20) (hw : 1 ≤ win) (hw9 : win ≤ 9223372036854775807) (hri : rightL l = true) :
    Calls Try.prog 8 #[.slice A l.length c, .int .i64 win, .slice Ab by_.length cb] w fun e w' => e = .returned (.bool true) ∧ Below w.heap.size w w' := by
  have d60 : decide ((60 : Int) < (l.length : Int)) = false := dcf (by omega)
  have d20 : decide ((20 : Int) < (by_.length : Int)) = false := dcf (by omega)
  have dw : decide (win < 1) = false := dcf (by omega)
  have hw0 : win ≠ 0 := by omega
  have HR := Lib.hid h
  have HF := Lib.hid h.fits
  have HST := Lib.hid h2
  clear h h2
  go_enter Try.func8, Try.ntmps8
  go_wp2_with fail
  refine (lives_calls w).mono ?_
  rintro e w1 ⟨rfl, hb1⟩
  have HRL := Lib.hid (rightL_calls w1 (c := c) (HR.out.below (hb1.mono hB)) (by have := hb1.size; omega) (by omega))
  rw [hri] at HRL
  go_wp2_with fail
  refine HRL.out.mono ?_
  rintro e w2 ⟨rfl, hb2⟩
  have HB02 : Hid (Below w.heap.size w w2) := Lib.hid (hb1.trans (hb2.mono hb1.size))
  clear hb1 hb2 HRL
  have HSP := Lib.hid (split_calls w2 (c := c) (c2 := cb) (HR.out.below (HB02.out.mono hB)) (by have := HB02.out.size; omega) (by omega) (HST.out.below (HB02.out.mono hB2)) (by have := HB02.out.size; omega) (by omega) hw hw9)
  go_wp2_with fail
  refine HSP.out.mono ?_
  rintro e w3 ⟨A3, c3, g1, d3, rfl, hsm3, hlb3, hgs3, hgk3, hb3⟩
  have HB03 : Hid (Below w.heap.size w w3) := Lib.hid (HB02.out.trans (hb3.mono HB02.out.size))
  have HSM := Lib.hid hsm3
  have HFD : Hid (∀ x ∈ d3, FitW x) := Lib.hid (SameL.fits (Eq.symm hsm3) fun x hx => HF.out x ((isort_perm l).mem_iff.1 hx))
  have HRt : Hid (∀ x ∈ d3, rightB x.labs = true) := Lib.hid fun x hx => by
    obtain ⟨y, hy, e⟩ := same_mem hsm3 hx
    rw [← labs_of e]
    exact rightL_labs hri y ((isort_perm l).mem_iff.1 hy)
  have HG := Lib.hid hgs3
  have HK := Lib.hid hgk3
  have HOk : Hid (∀ x ∈ d3, x.ok w3 w3.heap.size) := Lib.hid fun x hx => by
    have hf := HFD.out x hx
    exact ⟨Reads.of_own (hlb3 x hx), hf.fit, hf.len, hf.text, hf.time, hf.value⟩
  have HW : Hid (∀ g ∈ g1, Rows w3 w3.heap.size g.A g.rows) := Lib.hid fun g hg => hgs3.reads hg fun x hx => HOk.out x (mem_groups hgk3 hg hx)
  have hd3 : d3.length = l.length := by rw [hsm3.len, isort_len]
  have hgl := foldR_len (k := d3.length) (by rw [List.take_length]; exact hgk3)
  have HFL := Lib.hid fun (g : Gp Rw) (hg : g ∈ g1) => (show g.rows.length ≤ 60 by have := hgl.2 g hg; omega)
  have hgl := hgl.1
  have hgl : g1.length ≤ 60 := by omega
  clear hd3
  clear hb3 HSP hsm3 hlb3 hgs3 hgk3 HB02
  go_wp2
  go_loopw [7, 41] (fun va vi wr => ∃ (i n : Nat) (Aa : Option Addr) (ca : Nat), i ≤ g1.length ∧ vi = .int .i64 (i : Int) ∧ va = .slice Aa n ca ∧ Hid (wr.ownsRow w3.heap.size 37 9 (.slice Aa n ca) n (Sr.flat Rw.c ((g1.take i).flatMap Gp.rows))) ∧ Hid (((g1.take i).flatMap Gp.rows).length = n ∧ n ≤ 60 * i) ∧ Hid (Below w3.heap.size w3 wr)) (fun _ vi _ => g1.length - (intOf vi).toNat)
  case atStart => exact ⟨0, 0, none, 0, Nat.zero_le _, rfl, rfl, Lib.hid (World.ownsRow_nil _ _ _ _), Lib.hid ⟨rfl, Nat.zero_le _⟩, Lib.hid (Below.refl _ _)⟩
  case round =>
    obtain ⟨i, n, Aa, ca, hi, rfl, rfl, HOa, HLa, HBr⟩ := hrel
    obtain ⟨wo, rfl⟩ : ∃ wo : World, wo = wr := ⟨_, rfl⟩
    by_cases hlt : i < g1.length
    · obtain ⟨ga, hA3, hga⟩ := HG.out.addr (by omega)
      have hsr := HBr.out.size
      have Hat : Hid (∀ W, Below wo.heap.size wo W → ∀ j (hj : j < g1.length), At3 W ga j (g1[j]'hj)) := Lib.hid fun W hW j hj => reads3 ((Reads.of_own HG.out.out).below (HBr.out.trans (hW.mono (by omega)))) hA3 hj
      have hmem : g1[i] ∈ g1 := List.getElem_mem hlt
      have HFu := Lib.hid (gath_full HK.out hmem)
      have HKe := Lib.hid fun x (hx : x ∈ (g1[i]'hlt).rows) => gath_key HK.out hmem hx
      have HSo := Lib.hid fun k (hk : k + 1 < (g1[i]'hlt).rows.length) => gath_sort HK.out HSM.out hmem hk
      have HMe := Lib.hid fun x (hx : x ∈ (g1[i]'hlt).rows) => mem_groups HK.out hmem hx
      have HRg := Lib.hid (HW.out _ hmem)
      have HLg := Lib.hid (HFL.out _ hmem)
      have HTk := Lib.hid (take_flat hlt)
      have HRi := Lib.hid fun (hp : 0 < i) => gath_rise HK.out (show i - 1 < i by omega) hlt
      have Hx := Lib.hid fun W hW => Hat.out W hW i hlt
      have Hy := Lib.hid fun W hW (hp : 0 < i) => Hat.out W hW (i - 1) (by omega)
      obtain ⟨g, hg⟩ : ∃ g, g = g1[i]'hlt := ⟨_, rfl⟩
      simp only [← hg] at HFu HKe HSo HMe HRg HLg HTk HRi Hx
      clear hg hmem Hat
      obtain ⟨gw, gp, gA, gc, gl⟩ := g
      dsimp only at HFu HKe HSo HMe HRg HLg HTk HRi
      subst hA3
      have i0 : (0 : Int) ≤ (i : Int) := by omega
      have i9 : (i : Int) < (g1.length : Int) := by omega
      obtain ⟨x0, x1, x2⟩ := Hx.out wo (Below.refl _ _)
      go_upto_region 8 with fail
      have hbk := Blk.new wo 52 #[.int .i64 gw, .string gp, .slice gA gl.length gc]
      have hba := (Below.refl wo.heap.size wo).alloc (Nat.le_refl _) (.cells #[.int .i64 gw, .string gp, .slice gA gl.length gc] 52)
      obtain ⟨gx, hgx⟩ : ∃ gx, gx = wo.heap.size := ⟨_, rfl⟩
      rw [← hgx] at hbk ⊢
      have HGX := Lib.hid hgx
      clear hgx x0 x1 x2
      have hsz1 : (wo.alloc (.cells #[.int .i64 gw, .string gp, .slice gA gl.length gc] 52)).heap.size = wo.heap.size + 1 := by simp
      generalize hwa : wo.alloc (.cells #[.int .i64 gw, .string gp, .slice gA gl.length gc] 52) = wa at *
      clear hwa
      have HBk := Lib.hid hbk
      have HBa := Lib.hid hba
      clear hbk hba
      have HBX : Hid (∀ W, Below wa.heap.size wa W → (W.cell? ⟨gx, 0, none⟩ = some (.int .i64 gw) ∧ W.cell? ⟨gx, 1, none⟩ = some (.string gp) ∧ W.cell? ⟨gx, 2, none⟩ = some (.slice gA gl.length gc))) := Lib.hid fun W hW => by
        have h9 := HBk.out.below hW HBk.out.lt
        exact ⟨h9.cell 0, h9.cell 1, h9.cell 2⟩
      have hfull : ((gl.length : Int) == 0) = false := eqf (by have := HFu.out; omega)
      go_cut [86] (fun v wx => ∃ W9 : World, W9 = wx ∧ v = .bool false ∧ Hid (Below wa.heap.size wa wx))
      case first =>
        by_cases hp : 0 < i
        · have dk : decide ((0 : Int) < (i : Int)) = true := dct (by omega)
          have k0 : (0 : Int) ≤ (i : Int) - 1 := by omega
          have k9 : (i : Int) - 1 < (g1.length : Int) := by omega
          have k1 : (1 : Int) ≤ (i : Int) := by omega
          have k2 : ¬ (i : Int) < 1 := by omega
          have e1 : ((i : Int) - 1).toNat = i - 1 := by omega
          have n1 : IntKind.i64.wrap ((i : Int) - 1) = (i : Int) - 1 := IntWalk.i64_in _ (by omega)
          have Hy2 := Lib.hid fun W (hW : Below wa.heap.size wa W) => Hy.out W (HBa.out.trans (hW.mono HBa.out.size)) hp
          have HRj := Lib.hid (HRi.out hp)
          obtain ⟨y, hy⟩ : ∃ y, y = g1[i - 1]'(by omega) := ⟨_, rfl⟩
          simp only [← hy] at Hy2 HRj
          clear hy Hy HRi
          obtain ⟨yw, yp, yA, yc, yl⟩ := y
          dsimp only at HRj
          rw [ltK_eq] at HRj
          have HKp : Hid (∀ W, Below wa.heap.size wa W → (W.cell? ⟨gx, 0, none⟩ = some (.int .i64 gw) ∧ W.cell? ⟨gx, 1, none⟩ = some (.string gp) ∧ W.cell? ⟨gx, 2, none⟩ = some (.slice gA gl.length gc)) ∧ W.cell? ⟨ga, (i - 1) * 3, none⟩ = some (.int .i64 yw) ∧ W.cell? ⟨ga, (i - 1) * 3 + 1, none⟩ = some (.string yp)) := Lib.hid fun W hW => ⟨HBX.out W hW, (Hy2.out W hW).1, (Hy2.out W hW).2.1⟩
          clear Hy2
          by_cases hww : yw < gw
          · have d1 : decide (gw < yw) = false := dcf (by omega)
            have d2 : (yw == gw) = false := eqf (by omega)
            clear HRj
            refine wp_region_T 99 (fun w' => (w'.cell? ⟨gx, 0, none⟩ = some (.int .i64 gw) ∧ w'.cell? ⟨gx, 1, none⟩ = some (.string gp) ∧ w'.cell? ⟨gx, 2, none⟩ = some (.slice gA gl.length gc)) ∧ w'.cell? ⟨ga, (i - 1) * 3, none⟩ = some (.int .i64 yw) ∧ w'.cell? ⟨ga, (i - 1) * 3 + 1, none⟩ = some (.string yp)) (by kernel_rfl) (HKp.out _ (below_drewN_ (Below.refl _ _) 1)) (fun hHeld => ?_)
            refine wpAnyT_take (i := 0) (oi := _) (v := ?_) rfl (by kernel_rfl) (fun _ _ _ h => h) (Or.inl ⟨by kernel_rfl, ?_⟩) (by assumption) ?_; rotate_left; (focus (intro w hSw; (try dsimp only at hSw); go_simp; (try with_reducible rfl))); (try simp only [Act.put, List.getElem_toArray, List.getElem_cons_zero, List.setIfInBounds_toArray, List.set_cons_zero, List.set_cons_succ])
            refine wpAnyT_take (i := 1) (oi := _) (v := ?_) rfl (by kernel_rfl) (fun _ _ _ h => h) (Or.inl ⟨by kernel_rfl, ?_⟩) (by assumption) ?_; rotate_left; (focus (intro w hSw; (try dsimp only at hSw); go_simp; (try with_reducible rfl))); (try simp only [Act.put, List.getElem_toArray, List.getElem_cons_zero, List.getElem_cons_succ, List.setIfInBounds_toArray, List.set_cons_zero, List.set_cons_succ])
            refine wpAnyT_take (i := 2) (oi := _) (v := ?_) rfl (by kernel_rfl) (fun _ _ _ h => h) (Or.inl ⟨by kernel_rfl, ?_⟩) (by assumption) ?_; rotate_left; (focus (intro w hSw; (try dsimp only at hSw); go_simp; (try with_reducible rfl))); (try simp only [Act.put, List.getElem_toArray, List.getElem_cons_zero, List.getElem_cons_succ, List.setIfInBounds_toArray, List.set_cons_zero, List.set_cons_succ])
            refine wpAnyT_take (i := 3) (oi := _) (v := ?_) rfl (by kernel_rfl) (fun _ _ _ h => h) (Or.inl ⟨by kernel_rfl, ?_⟩) (by assumption) ?_; rotate_left; (focus (intro w hSw; (try dsimp only at hSw); go_simp; (try with_reducible rfl))); (try simp only [Act.put, List.getElem_toArray, List.getElem_cons_zero, List.getElem_cons_succ, List.setIfInBounds_toArray, List.set_cons_zero, List.set_cons_succ])
            refine wpAnyT_take (i := 4) (oi := _) (v := ?_) rfl (by kernel_rfl) (fun _ _ _ h => h) (Or.inl ⟨by kernel_rfl, ?_⟩) (by assumption) ?_; rotate_left; (focus (intro w hSw; (try dsimp only at hSw); go_simp; (try with_reducible rfl))); (try simp only [Act.put, List.getElem_toArray, List.getElem_cons_zero, List.getElem_cons_succ, List.setIfInBounds_toArray, List.set_cons_zero, List.set_cons_succ])
            refine wpAnyT_take (i := 5) (oi := _) (v := ?_) rfl (by kernel_rfl) (fun _ _ _ h => h) (Or.inl ⟨by kernel_rfl, ?_⟩) (by assumption) ?_; rotate_left; (focus (intro w hSw; (try dsimp only at hSw); go_simp; (try with_reducible rfl))); (try simp only [Act.put, List.getElem_toArray, List.getElem_cons_zero, List.getElem_cons_succ, List.setIfInBounds_toArray, List.set_cons_zero, List.set_cons_succ])
            refine wpAnyT_take (i := 6) (oi := _) (v := ?_) rfl (by kernel_rfl) (fun _ _ _ h => h) (Or.inl ⟨by kernel_rfl, ?_⟩) (by assumption) ?_; rotate_left; (focus (intro w hSw; (try dsimp only at hSw); go_simp; (try with_reducible rfl))); (try simp only [Act.put, List.getElem_toArray, List.getElem_cons_zero, List.getElem_cons_succ, List.setIfInBounds_toArray, List.set_cons_zero, List.set_cons_succ])
            refine wpAnyT_take (i := 7) (oi := _) (v := ?_) rfl (by kernel_rfl) (fun _ _ _ h => h) (Or.inl ⟨by kernel_rfl, ?_⟩) (by assumption) ?_; rotate_left; (focus (intro w hSw; (try dsimp only at hSw); go_simp; (try with_reducible rfl))); (try simp only [Act.put, List.getElem_toArray, List.getElem_cons_zero, List.getElem_cons_succ, List.setIfInBounds_toArray, List.set_cons_zero, List.set_cons_succ])
            refine wpAnyT_take (i := 8) (oi := _) (v := ?_) rfl (by kernel_rfl) (fun _ _ _ h => h) (Or.inl ⟨by kernel_rfl, ?_⟩) (by assumption) ?_; rotate_left; (focus (intro w hSw; (try dsimp only at hSw); go_simp; (try with_reducible rfl))); (try simp only [Act.put, List.getElem_toArray, List.getElem_cons_zero, List.getElem_cons_succ, List.setIfInBounds_toArray, List.set_cons_zero, List.set_cons_succ])
            refine wpAnyT_take (i := 9) (oi := _) (v := ?_) rfl (by kernel_rfl) (fun _ _ _ h => h) (Or.inl ⟨by kernel_rfl, ?_⟩) (by assumption) ?_; rotate_left; (focus (intro w hSw; (try dsimp only at hSw); go_simp; (try with_reducible rfl))); (try simp only [Act.put, List.getElem_toArray, List.getElem_cons_zero, List.getElem_cons_succ, List.setIfInBounds_toArray, List.set_cons_zero, List.set_cons_succ])
            refine wpAnyT_take (i := 10) (oi := _) (v := ?_) rfl (by kernel_rfl) (fun _ _ _ h => h) (Or.inl ⟨by kernel_rfl, ?_⟩) (by assumption) ?_; rotate_left; (focus (intro w hSw; (try dsimp only at hSw); go_simp; (try with_reducible rfl))); (try simp only [Act.put, List.getElem_toArray, List.getElem_cons_zero, List.getElem_cons_succ, List.setIfInBounds_toArray, List.set_cons_zero, List.set_cons_succ])
            refine wpAnyT_take (i := 11) (oi := _) (v := .pointer (some ⟨ga, (i - 1) * 3, none⟩)) rfl (by kernel_rfl) (fun _ _ _ h => h) (Or.inl ⟨by kernel_rfl, by (intro w hSw; (try dsimp only at hSw); go_simp)⟩) (by assumption) ?_; (try simp only [Act.put, List.getElem_toArray, List.getElem_cons_zero, List.getElem_cons_succ, List.setIfInBounds_toArray, List.set_cons_zero, List.set_cons_succ])
            refine wpAnyT_take (i := 12) (oi := _) (v := ?_) rfl (by kernel_rfl) (fun _ _ _ h => h) (Or.inl ⟨by kernel_rfl, ?_⟩) (by assumption) ?_; rotate_left; (focus (intro w hSw; (try dsimp only at hSw); go_simp; (try with_reducible rfl))); (try simp only [Act.put, List.getElem_toArray, List.getElem_cons_zero, List.getElem_cons_succ, List.setIfInBounds_toArray, List.set_cons_zero, List.set_cons_succ])
            refine wpAnyT_take (i := 13) (oi := _) (v := ?_) rfl (by kernel_rfl) (fun _ _ _ h => h) (Or.inl ⟨by kernel_rfl, ?_⟩) (by assumption) ?_; rotate_left; (focus (intro w hSw; (try dsimp only at hSw); go_simp; (try with_reducible rfl))); (try simp only [Act.put, List.getElem_toArray, List.getElem_cons_zero, List.getElem_cons_succ, List.setIfInBounds_toArray, List.set_cons_zero, List.set_cons_succ])
            refine wpAnyT_take (i := 14) (oi := _) (v := ?_) rfl (by kernel_rfl) (fun _ _ _ h => h) (Or.inl ⟨by kernel_rfl, ?_⟩) (by assumption) ?_; rotate_left; (focus (intro w hSw; (try dsimp only at hSw); go_simp; (try with_reducible rfl))); (try simp only [Act.put, List.getElem_toArray, List.getElem_cons_zero, List.getElem_cons_succ, List.setIfInBounds_toArray, List.set_cons_zero, List.set_cons_succ])
            refine wpAnyT_take (i := 15) (oi := _) (v := ?_) rfl (by kernel_rfl) (fun _ _ _ h => h) (Or.inl ⟨by kernel_rfl, ?_⟩) (by assumption) ?_; rotate_left; (focus (intro w hSw; (try dsimp only at hSw); go_simp; (try with_reducible rfl))); (try simp only [Act.put, List.getElem_toArray, List.getElem_cons_zero, List.getElem_cons_succ, List.setIfInBounds_toArray, List.set_cons_zero, List.set_cons_succ])
            refine wpAnyT_take (i := 16) (oi := _) (v := ?_) rfl (by kernel_rfl) (fun _ _ _ h => h) (Or.inl ⟨by kernel_rfl, ?_⟩) (by assumption) ?_; rotate_left; (focus (intro w hSw; (try dsimp only at hSw); go_simp; (try with_reducible rfl))); (try simp only [Act.put, List.getElem_toArray, List.getElem_cons_zero, List.getElem_cons_succ, List.setIfInBounds_toArray, List.set_cons_zero, List.set_cons_succ])
            refine wpAnyT_take (i := 17) (oi := _) (v := ?_) rfl (by kernel_rfl) (fun _ _ _ h => h) (Or.inl ⟨by kernel_rfl, ?_⟩) (by assumption) ?_; rotate_left; (focus (intro w hSw; (try dsimp only at hSw); go_simp; (try with_reducible rfl))); (try simp only [Act.put, List.getElem_toArray, List.getElem_cons_zero, List.getElem_cons_succ, List.setIfInBounds_toArray, List.set_cons_zero, List.set_cons_succ])
            refine wpAnyT_take (i := 18) (oi := _) (v := ?_) rfl (by kernel_rfl) (fun _ _ _ h => h) (Or.inl ⟨by kernel_rfl, ?_⟩) (by assumption) ?_; rotate_left; (focus (intro w hSw; (try dsimp only at hSw); go_simp; (try with_reducible rfl))); (try simp only [Act.put, List.getElem_toArray, List.getElem_cons_zero, List.getElem_cons_succ, List.setIfInBounds_toArray, List.set_cons_zero, List.set_cons_succ])
            refine wpAnyT_take (i := 19) (oi := _) (v := ?_) rfl (by kernel_rfl) (fun _ _ _ h => h) (Or.inl ⟨by kernel_rfl, ?_⟩) (by assumption) ?_; rotate_left; (focus (intro w hSw; (try dsimp only at hSw); go_simp; (try with_reducible rfl))); (try simp only [Act.put, List.getElem_toArray, List.getElem_cons_zero, List.getElem_cons_succ, List.setIfInBounds_toArray, List.set_cons_zero, List.set_cons_succ])
            refine wpAnyT_take (i := 20) (oi := _) (v := ?_) rfl (by kernel_rfl) (fun _ _ _ h => h) (Or.inl ⟨by kernel_rfl, ?_⟩) (by assumption) ?_; rotate_left; (focus (intro w hSw; (try dsimp only at hSw); go_simp; (try with_reducible rfl))); (try simp only [Act.put, List.getElem_toArray, List.getElem_cons_zero, List.getElem_cons_succ, List.setIfInBounds_toArray, List.set_cons_zero, List.set_cons_succ])
            refine wpAnyT_take (i := 21) (oi := _) (v := .pointer (some ⟨ga, (i - 1) * 3, none⟩)) rfl (by kernel_rfl) (fun _ _ _ h => h) (Or.inl ⟨by kernel_rfl, by (intro w hSw; (try dsimp only at hSw); go_simp)⟩) (by assumption) ?_; (try simp only [Act.put, List.getElem_toArray, List.getElem_cons_zero, List.getElem_cons_succ, List.setIfInBounds_toArray, List.set_cons_zero, List.set_cons_succ])
            refine wpAnyT_take (i := 22) (oi := _) (v := ?_) rfl (by kernel_rfl) (fun _ _ _ h => h) (Or.inl ⟨by kernel_rfl, ?_⟩) (by assumption) ?_; rotate_left; (focus (intro w hSw; (try dsimp only at hSw); go_simp; (try with_reducible rfl))); (try simp only [Act.put, List.getElem_toArray, List.getElem_cons_zero, List.getElem_cons_succ, List.setIfInBounds_toArray, List.set_cons_zero, List.set_cons_succ])
            refine wpAnyT_take (i := 23) (oi := _) (v := ?_) rfl (by kernel_rfl) (fun _ _ _ h => h) (Or.inl ⟨by kernel_rfl, ?_⟩) (by assumption) ?_; rotate_left; (focus (intro w hSw; (try dsimp only at hSw); go_simp; (try with_reducible rfl))); (try simp only [Act.put, List.getElem_toArray, List.getElem_cons_zero, List.getElem_cons_succ, List.setIfInBounds_toArray, List.set_cons_zero, List.set_cons_succ])
            refine wpAnyT_take (i := 24) (oi := _) (v := ?_) rfl (by kernel_rfl) (fun _ _ _ h => h) (Or.inl ⟨by kernel_rfl, ?_⟩) (by assumption) ?_; rotate_left; (focus (intro w hSw; (try dsimp only at hSw); go_simp; (try with_reducible rfl))); (try simp only [Act.put, List.getElem_toArray, List.getElem_cons_zero, List.getElem_cons_succ, List.setIfInBounds_toArray, List.set_cons_zero, List.set_cons_succ])
            refine wpAnyT_take (i := 25) (oi := _) (v := ?_) rfl (by kernel_rfl) (fun _ _ _ h => h) (Or.inl ⟨by kernel_rfl, ?_⟩) (by assumption) ?_; rotate_left; (focus (intro w hSw; (try dsimp only at hSw); go_simp; (try with_reducible rfl))); (try simp only [Act.put, List.getElem_toArray, List.getElem_cons_zero, List.getElem_cons_succ, List.setIfInBounds_toArray, List.set_cons_zero, List.set_cons_succ])
            refine wpAnyT_take (i := 26) (oi := _) (v := ?_) rfl (by kernel_rfl) (fun _ _ _ h => h) (Or.inl ⟨by kernel_rfl, ?_⟩) (by assumption) ?_; rotate_left; (focus (intro w hSw; (try dsimp only at hSw); go_simp; (try with_reducible rfl))); (try simp only [Act.put, List.getElem_toArray, List.getElem_cons_zero, List.getElem_cons_succ, List.setIfInBounds_toArray, List.set_cons_zero, List.set_cons_succ])
            refine wpAnyT_take (i := 27) (oi := _) (v := ?_) rfl (by kernel_rfl) (fun _ _ _ h => h) (Or.inl ⟨by kernel_rfl, ?_⟩) (by assumption) ?_; rotate_left; (focus (intro w hSw; (try dsimp only at hSw); go_simp; (try with_reducible rfl))); (try simp only [Act.put, List.getElem_toArray, List.getElem_cons_zero, List.getElem_cons_succ, List.setIfInBounds_toArray, List.set_cons_zero, List.set_cons_succ])
            refine wpAnyT_take (i := 28) (oi := _) (v := undef) rfl (by kernel_rfl) (fun _ _ _ h => h) (Or.inr ⟨by kernel_rfl, rfl⟩) (by assumption) ?_; (try simp only [Act.put, List.getElem_toArray, List.getElem_cons_zero, List.getElem_cons_succ, List.setIfInBounds_toArray, List.set_cons_zero, List.set_cons_succ])
            refine wpAnyT_take (i := 29) (oi := _) (v := undef) rfl (by kernel_rfl) (fun _ _ _ h => h) (Or.inr ⟨by kernel_rfl, rfl⟩) (by assumption) ?_; (try simp only [Act.put, List.getElem_toArray, List.getElem_cons_zero, List.getElem_cons_succ, List.setIfInBounds_toArray, List.set_cons_zero, List.set_cons_succ])
            refine wpAnyT_take (i := 30) (oi := _) (v := undef) rfl (by kernel_rfl) (fun _ _ _ h => h) (Or.inr ⟨by kernel_rfl, rfl⟩) (by assumption) ?_; (try simp only [Act.put, List.getElem_toArray, List.getElem_cons_zero, List.getElem_cons_succ, List.setIfInBounds_toArray, List.set_cons_zero, List.set_cons_succ])
            refine wpAnyT_take (i := 31) (oi := _) (v := undef) rfl (by kernel_rfl) (fun _ _ _ h => h) (Or.inr ⟨by kernel_rfl, rfl⟩) (by assumption) ?_; (try simp only [Act.put, List.getElem_toArray, List.getElem_cons_zero, List.getElem_cons_succ, List.setIfInBounds_toArray, List.set_cons_zero, List.set_cons_succ])
            refine wpAnyT_take (i := 32) (oi := _) (v := undef) rfl (by kernel_rfl) (fun _ _ _ h => h) (Or.inr ⟨by kernel_rfl, rfl⟩) (by assumption) ?_; (try simp only [Act.put, List.getElem_toArray, List.getElem_cons_zero, List.getElem_cons_succ, List.setIfInBounds_toArray, List.set_cons_zero, List.set_cons_succ])
            refine wpAnyT_take (i := 33) (oi := _) (v := undef) rfl (by kernel_rfl) (fun _ _ _ h => h) (Or.inr ⟨by kernel_rfl, rfl⟩) (by assumption) ?_; (try simp only [Act.put, List.getElem_toArray, List.getElem_cons_zero, List.getElem_cons_succ, List.setIfInBounds_toArray, List.set_cons_zero, List.set_cons_succ])
            refine wpAnyT_take (i := 34) (oi := _) (v := undef) rfl (by kernel_rfl) (fun _ _ _ h => h) (Or.inr ⟨by kernel_rfl, rfl⟩) (by assumption) ?_; (try simp only [Act.put, List.getElem_toArray, List.getElem_cons_zero, List.getElem_cons_succ, List.setIfInBounds_toArray, List.set_cons_zero, List.set_cons_succ])
            refine wpAnyT_take (i := 35) (oi := _) (v := undef) rfl (by kernel_rfl) (fun _ _ _ h => h) (Or.inr ⟨by kernel_rfl, rfl⟩) (by assumption) ?_; (try simp only [Act.put, List.getElem_toArray, List.getElem_cons_zero, List.getElem_cons_succ, List.setIfInBounds_toArray, List.set_cons_zero, List.set_cons_succ])
            refine wpAnyT_take (i := 36) (oi := _) (v := undef) rfl (by kernel_rfl) (fun _ _ _ h => h) (Or.inr ⟨by kernel_rfl, rfl⟩) (by assumption) ?_; (try simp only [Act.put, List.getElem_toArray, List.getElem_cons_zero, List.getElem_cons_succ, List.setIfInBounds_toArray, List.set_cons_zero, List.set_cons_succ])
            refine wpAnyT_take (i := 37) (oi := _) (v := ?_) rfl (by kernel_rfl) (fun _ _ _ h => h) (Or.inl ⟨by kernel_rfl, ?_⟩) (by assumption) ?_; rotate_left; (focus (intro w hSw; (try dsimp only at hSw); go_simp; (try with_reducible rfl))); (try simp only [Act.put, List.getElem_toArray, List.getElem_cons_zero, List.getElem_cons_succ, List.setIfInBounds_toArray, List.set_cons_zero, List.set_cons_succ])
            refine wpAnyT_take (i := 38) (oi := _) (v := ?_) rfl (by kernel_rfl) (fun _ _ _ h => h) (Or.inl ⟨by kernel_rfl, ?_⟩) (by assumption) ?_; rotate_left; (focus (intro w hSw; (try dsimp only at hSw); go_simp; (try with_reducible rfl))); (try simp only [Act.put, List.getElem_toArray, List.getElem_cons_zero, List.getElem_cons_succ, List.setIfInBounds_toArray, List.set_cons_zero, List.set_cons_succ])
            refine wpAnyT_take (i := 39) (oi := _) (v := ?_) rfl (by kernel_rfl) (fun _ _ _ h => h) (Or.inl ⟨by kernel_rfl, ?_⟩) (by assumption) ?_; rotate_left; (focus (intro w hSw; (try dsimp only at hSw); go_simp; (try with_reducible rfl))); (try simp only [Act.put, List.getElem_toArray, List.getElem_cons_zero, List.getElem_cons_succ, List.setIfInBounds_toArray, List.set_cons_zero, List.set_cons_succ])
            refine wpAnyT_take (i := 40) (oi := _) (v := ?_) rfl (by kernel_rfl) (fun _ _ _ h => h) (Or.inl ⟨by kernel_rfl, ?_⟩) (by assumption) ?_; rotate_left; (focus (intro w hSw; (try dsimp only at hSw); go_simp; (try with_reducible rfl))); (try simp only [Act.put, List.getElem_toArray, List.getElem_cons_zero, List.getElem_cons_succ, List.setIfInBounds_toArray, List.set_cons_zero, List.set_cons_succ])
            refine wpAnyT_done (by kernel_rfl) ?_ _
            have HBw : Hid (Below wa.heap.size wa (wa.drewN 1)) := Lib.hid (below_drewN_ (Below.refl _ _) 1)
            go_wp2
            go_meet
            exact ⟨_, rfl, rfl, HBw⟩
          · have HRk : yw = gw ∧ lessS yp gp = true := by
              have h9 := HRj.out
              rw [dcf hww, Bool.false_or, Bool.and_eq_true, decide_eq_true_iff] at h9
              exact h9
            obtain ⟨hyw, hls⟩ := HRk
            have hyw2 := hyw.symm
            subst hyw2
            have d1 : decide (gw < gw) = false := dcf (by omega)
            have d2 : (gw == gw) = true := eqt rfl
            have d3 : Op.bytesLess yp.toList gp.toList = true := hls
            clear HRj hls
            refine wp_region_T 99 (fun w' => (w'.cell? ⟨gx, 0, none⟩ = some (.int .i64 gw) ∧ w'.cell? ⟨gx, 1, none⟩ = some (.string gp) ∧ w'.cell? ⟨gx, 2, none⟩ = some (.slice gA gl.length gc)) ∧ w'.cell? ⟨ga, (i - 1) * 3, none⟩ = some (.int .i64 gw) ∧ w'.cell? ⟨ga, (i - 1) * 3 + 1, none⟩ = some (.string yp)) (by kernel_rfl) (HKp.out _ (below_drewN_ (Below.refl _ _) 1)) (fun hHeld => ?_)
            refine wpAnyT_take (i := 0) (oi := _) (v := ?_) rfl (by kernel_rfl) (fun _ _ _ h => h) (Or.inl ⟨by kernel_rfl, ?_⟩) (by assumption) ?_; rotate_left; (focus (intro w hSw; (try dsimp only at hSw); go_simp; (try with_reducible rfl))); (try simp only [Act.put, List.getElem_toArray, List.getElem_cons_zero, List.setIfInBounds_toArray, List.set_cons_zero, List.set_cons_succ])
            refine wpAnyT_take (i := 1) (oi := _) (v := ?_) rfl (by kernel_rfl) (fun _ _ _ h => h) (Or.inl ⟨by kernel_rfl, ?_⟩) (by assumption) ?_; rotate_left; (focus (intro w hSw; (try dsimp only at hSw); go_simp; (try with_reducible rfl))); (try simp only [Act.put, List.getElem_toArray, List.getElem_cons_zero, List.getElem_cons_succ, List.setIfInBounds_toArray, List.set_cons_zero, List.set_cons_succ])
            refine wpAnyT_take (i := 2) (oi := _) (v := ?_) rfl (by kernel_rfl) (fun _ _ _ h => h) (Or.inl ⟨by kernel_rfl, ?_⟩) (by assumption) ?_; rotate_left; (focus (intro w hSw; (try dsimp only at hSw); go_simp; (try with_reducible rfl))); (try simp only [Act.put, List.getElem_toArray, List.getElem_cons_zero, List.getElem_cons_succ, List.setIfInBounds_toArray, List.set_cons_zero, List.set_cons_succ])
            refine wpAnyT_take (i := 3) (oi := _) (v := ?_) rfl (by kernel_rfl) (fun _ _ _ h => h) (Or.inl ⟨by kernel_rfl, ?_⟩) (by assumption) ?_; rotate_left; (focus (intro w hSw; (try dsimp only at hSw); go_simp; (try with_reducible rfl))); (try simp only [Act.put, List.getElem_toArray, List.getElem_cons_zero, List.getElem_cons_succ, List.setIfInBounds_toArray, List.set_cons_zero, List.set_cons_succ])
            refine wpAnyT_take (i := 4) (oi := _) (v := ?_) rfl (by kernel_rfl) (fun _ _ _ h => h) (Or.inl ⟨by kernel_rfl, ?_⟩) (by assumption) ?_; rotate_left; (focus (intro w hSw; (try dsimp only at hSw); go_simp; (try with_reducible rfl))); (try simp only [Act.put, List.getElem_toArray, List.getElem_cons_zero, List.getElem_cons_succ, List.setIfInBounds_toArray, List.set_cons_zero, List.set_cons_succ])
            refine wpAnyT_take (i := 5) (oi := _) (v := ?_) rfl (by kernel_rfl) (fun _ _ _ h => h) (Or.inl ⟨by kernel_rfl, ?_⟩) (by assumption) ?_; rotate_left; (focus (intro w hSw; (try dsimp only at hSw); go_simp; (try with_reducible rfl))); (try simp only [Act.put, List.getElem_toArray, List.getElem_cons_zero, List.getElem_cons_succ, List.setIfInBounds_toArray, List.set_cons_zero, List.set_cons_succ])
            refine wpAnyT_take (i := 6) (oi := _) (v := ?_) rfl (by kernel_rfl) (fun _ _ _ h => h) (Or.inl ⟨by kernel_rfl, ?_⟩) (by assumption) ?_; rotate_left; (focus (intro w hSw; (try dsimp only at hSw); go_simp; (try with_reducible rfl))); (try simp only [Act.put, List.getElem_toArray, List.getElem_cons_zero, List.getElem_cons_succ, List.setIfInBounds_toArray, List.set_cons_zero, List.set_cons_succ])
            refine wpAnyT_take (i := 7) (oi := _) (v := ?_) rfl (by kernel_rfl) (fun _ _ _ h => h) (Or.inl ⟨by kernel_rfl, ?_⟩) (by assumption) ?_; rotate_left; (focus (intro w hSw; (try dsimp only at hSw); go_simp; (try with_reducible rfl))); (try simp only [Act.put, List.getElem_toArray, List.getElem_cons_zero, List.getElem_cons_succ, List.setIfInBounds_toArray, List.set_cons_zero, List.set_cons_succ])
            refine wpAnyT_take (i := 8) (oi := _) (v := ?_) rfl (by kernel_rfl) (fun _ _ _ h => h) (Or.inl ⟨by kernel_rfl, ?_⟩) (by assumption) ?_; rotate_left; (focus (intro w hSw; (try dsimp only at hSw); go_simp; (try with_reducible rfl))); (try simp only [Act.put, List.getElem_toArray, List.getElem_cons_zero, List.getElem_cons_succ, List.setIfInBounds_toArray, List.set_cons_zero, List.set_cons_succ])
            refine wpAnyT_take (i := 9) (oi := _) (v := ?_) rfl (by kernel_rfl) (fun _ _ _ h => h) (Or.inl ⟨by kernel_rfl, ?_⟩) (by assumption) ?_; rotate_left; (focus (intro w hSw; (try dsimp only at hSw); go_simp; (try with_reducible rfl))); (try simp only [Act.put, List.getElem_toArray, List.getElem_cons_zero, List.getElem_cons_succ, List.setIfInBounds_toArray, List.set_cons_zero, List.set_cons_succ])
            refine wpAnyT_take (i := 10) (oi := _) (v := ?_) rfl (by kernel_rfl) (fun _ _ _ h => h) (Or.inl ⟨by kernel_rfl, ?_⟩) (by assumption) ?_; rotate_left; (focus (intro w hSw; (try dsimp only at hSw); go_simp; (try with_reducible rfl))); (try simp only [Act.put, List.getElem_toArray, List.getElem_cons_zero, List.getElem_cons_succ, List.setIfInBounds_toArray, List.set_cons_zero, List.set_cons_succ])
            refine wpAnyT_take (i := 11) (oi := _) (v := .pointer (some ⟨ga, (i - 1) * 3, none⟩)) rfl (by kernel_rfl) (fun _ _ _ h => h) (Or.inl ⟨by kernel_rfl, by (intro w hSw; (try dsimp only at hSw); go_simp)⟩) (by assumption) ?_; (try simp only [Act.put, List.getElem_toArray, List.getElem_cons_zero, List.getElem_cons_succ, List.setIfInBounds_toArray, List.set_cons_zero, List.set_cons_succ])
            refine wpAnyT_take (i := 12) (oi := _) (v := ?_) rfl (by kernel_rfl) (fun _ _ _ h => h) (Or.inl ⟨by kernel_rfl, ?_⟩) (by assumption) ?_; rotate_left; (focus (intro w hSw; (try dsimp only at hSw); go_simp; (try with_reducible rfl))); (try simp only [Act.put, List.getElem_toArray, List.getElem_cons_zero, List.getElem_cons_succ, List.setIfInBounds_toArray, List.set_cons_zero, List.set_cons_succ])
            refine wpAnyT_take (i := 13) (oi := _) (v := ?_) rfl (by kernel_rfl) (fun _ _ _ h => h) (Or.inl ⟨by kernel_rfl, ?_⟩) (by assumption) ?_; rotate_left; (focus (intro w hSw; (try dsimp only at hSw); go_simp; (try with_reducible rfl))); (try simp only [Act.put, List.getElem_toArray, List.getElem_cons_zero, List.getElem_cons_succ, List.setIfInBounds_toArray, List.set_cons_zero, List.set_cons_succ])
            refine wpAnyT_take (i := 14) (oi := _) (v := ?_) rfl (by kernel_rfl) (fun _ _ _ h => h) (Or.inl ⟨by kernel_rfl, ?_⟩) (by assumption) ?_; rotate_left; (focus (intro w hSw; (try dsimp only at hSw); go_simp; (try with_reducible rfl))); (try simp only [Act.put, List.getElem_toArray, List.getElem_cons_zero, List.getElem_cons_succ, List.setIfInBounds_toArray, List.set_cons_zero, List.set_cons_succ])
            refine wpAnyT_take (i := 15) (oi := _) (v := ?_) rfl (by kernel_rfl) (fun _ _ _ h => h) (Or.inl ⟨by kernel_rfl, ?_⟩) (by assumption) ?_; rotate_left; (focus (intro w hSw; (try dsimp only at hSw); go_simp; (try with_reducible rfl))); (try simp only [Act.put, List.getElem_toArray, List.getElem_cons_zero, List.getElem_cons_succ, List.setIfInBounds_toArray, List.set_cons_zero, List.set_cons_succ])
            refine wpAnyT_take (i := 16) (oi := _) (v := ?_) rfl (by kernel_rfl) (fun _ _ _ h => h) (Or.inl ⟨by kernel_rfl, ?_⟩) (by assumption) ?_; rotate_left; (focus (intro w hSw; (try dsimp only at hSw); go_simp; (try with_reducible rfl))); (try simp only [Act.put, List.getElem_toArray, List.getElem_cons_zero, List.getElem_cons_succ, List.setIfInBounds_toArray, List.set_cons_zero, List.set_cons_succ])
            refine wpAnyT_take (i := 17) (oi := _) (v := ?_) rfl (by kernel_rfl) (fun _ _ _ h => h) (Or.inl ⟨by kernel_rfl, ?_⟩) (by assumption) ?_; rotate_left; (focus (intro w hSw; (try dsimp only at hSw); go_simp; (try with_reducible rfl))); (try simp only [Act.put, List.getElem_toArray, List.getElem_cons_zero, List.getElem_cons_succ, List.setIfInBounds_toArray, List.set_cons_zero, List.set_cons_succ])
            refine wpAnyT_take (i := 18) (oi := _) (v := ?_) rfl (by kernel_rfl) (fun _ _ _ h => h) (Or.inl ⟨by kernel_rfl, ?_⟩) (by assumption) ?_; rotate_left; (focus (intro w hSw; (try dsimp only at hSw); go_simp; (try with_reducible rfl))); (try simp only [Act.put, List.getElem_toArray, List.getElem_cons_zero, List.getElem_cons_succ, List.setIfInBounds_toArray, List.set_cons_zero, List.set_cons_succ])
            refine wpAnyT_take (i := 19) (oi := _) (v := ?_) rfl (by kernel_rfl) (fun _ _ _ h => h) (Or.inl ⟨by kernel_rfl, ?_⟩) (by assumption) ?_; rotate_left; (focus (intro w hSw; (try dsimp only at hSw); go_simp; (try with_reducible rfl))); (try simp only [Act.put, List.getElem_toArray, List.getElem_cons_zero, List.getElem_cons_succ, List.setIfInBounds_toArray, List.set_cons_zero, List.set_cons_succ])
            refine wpAnyT_take (i := 20) (oi := _) (v := ?_) rfl (by kernel_rfl) (fun _ _ _ h => h) (Or.inl ⟨by kernel_rfl, ?_⟩) (by assumption) ?_; rotate_left; (focus (intro w hSw; (try dsimp only at hSw); go_simp; (try with_reducible rfl))); (try simp only [Act.put, List.getElem_toArray, List.getElem_cons_zero, List.getElem_cons_succ, List.setIfInBounds_toArray, List.set_cons_zero, List.set_cons_succ])
            refine wpAnyT_take (i := 21) (oi := _) (v := .pointer (some ⟨ga, (i - 1) * 3, none⟩)) rfl (by kernel_rfl) (fun _ _ _ h => h) (Or.inl ⟨by kernel_rfl, by (intro w hSw; (try dsimp only at hSw); go_simp)⟩) (by assumption) ?_; (try simp only [Act.put, List.getElem_toArray, List.getElem_cons_zero, List.getElem_cons_succ, List.setIfInBounds_toArray, List.set_cons_zero, List.set_cons_succ])
            refine wpAnyT_take (i := 22) (oi := _) (v := ?_) rfl (by kernel_rfl) (fun _ _ _ h => h) (Or.inl ⟨by kernel_rfl, ?_⟩) (by assumption) ?_; rotate_left; (focus (intro w hSw; (try dsimp only at hSw); go_simp; (try with_reducible rfl))); (try simp only [Act.put, List.getElem_toArray, List.getElem_cons_zero, List.getElem_cons_succ, List.setIfInBounds_toArray, List.set_cons_zero, List.set_cons_succ])
            refine wpAnyT_take (i := 23) (oi := _) (v := ?_) rfl (by kernel_rfl) (fun _ _ _ h => h) (Or.inl ⟨by kernel_rfl, ?_⟩) (by assumption) ?_; rotate_left; (focus (intro w hSw; (try dsimp only at hSw); go_simp; (try with_reducible rfl))); (try simp only [Act.put, List.getElem_toArray, List.getElem_cons_zero, List.getElem_cons_succ, List.setIfInBounds_toArray, List.set_cons_zero, List.set_cons_succ])
            refine wpAnyT_take (i := 24) (oi := _) (v := ?_) rfl (by kernel_rfl) (fun _ _ _ h => h) (Or.inl ⟨by kernel_rfl, ?_⟩) (by assumption) ?_; rotate_left; (focus (intro w hSw; (try dsimp only at hSw); go_simp; (try with_reducible rfl))); (try simp only [Act.put, List.getElem_toArray, List.getElem_cons_zero, List.getElem_cons_succ, List.setIfInBounds_toArray, List.set_cons_zero, List.set_cons_succ])
            refine wpAnyT_take (i := 25) (oi := _) (v := ?_) rfl (by kernel_rfl) (fun _ _ _ h => h) (Or.inl ⟨by kernel_rfl, ?_⟩) (by assumption) ?_; rotate_left; (focus (intro w hSw; (try dsimp only at hSw); go_simp; (try with_reducible rfl))); (try simp only [Act.put, List.getElem_toArray, List.getElem_cons_zero, List.getElem_cons_succ, List.setIfInBounds_toArray, List.set_cons_zero, List.set_cons_succ])
            refine wpAnyT_take (i := 26) (oi := _) (v := ?_) rfl (by kernel_rfl) (fun _ _ _ h => h) (Or.inl ⟨by kernel_rfl, ?_⟩) (by assumption) ?_; rotate_left; (focus (intro w hSw; (try dsimp only at hSw); go_simp; (try with_reducible rfl))); (try simp only [Act.put, List.getElem_toArray, List.getElem_cons_zero, List.getElem_cons_succ, List.setIfInBounds_toArray, List.set_cons_zero, List.set_cons_succ])
            refine wpAnyT_take (i := 27) (oi := _) (v := ?_) rfl (by kernel_rfl) (fun _ _ _ h => h) (Or.inl ⟨by kernel_rfl, ?_⟩) (by assumption) ?_; rotate_left; (focus (intro w hSw; (try dsimp only at hSw); go_simp; (try with_reducible rfl))); (try simp only [Act.put, List.getElem_toArray, List.getElem_cons_zero, List.getElem_cons_succ, List.setIfInBounds_toArray, List.set_cons_zero, List.set_cons_succ])
            refine wpAnyT_take (i := 28) (oi := _) (v := ?_) rfl (by kernel_rfl) (fun _ _ _ h => h) (Or.inl ⟨by kernel_rfl, ?_⟩) (by assumption) ?_; rotate_left; (focus (intro w hSw; (try dsimp only at hSw); go_simp; (try with_reducible rfl))); (try simp only [Act.put, List.getElem_toArray, List.getElem_cons_zero, List.getElem_cons_succ, List.setIfInBounds_toArray, List.set_cons_zero, List.set_cons_succ])
            refine wpAnyT_take (i := 29) (oi := _) (v := ?_) rfl (by kernel_rfl) (fun _ _ _ h => h) (Or.inl ⟨by kernel_rfl, ?_⟩) (by assumption) ?_; rotate_left; (focus (intro w hSw; (try dsimp only at hSw); go_simp; (try with_reducible rfl))); (try simp only [Act.put, List.getElem_toArray, List.getElem_cons_zero, List.getElem_cons_succ, List.setIfInBounds_toArray, List.set_cons_zero, List.set_cons_succ])
            refine wpAnyT_take (i := 30) (oi := _) (v := ?_) rfl (by kernel_rfl) (fun _ _ _ h => h) (Or.inl ⟨by kernel_rfl, ?_⟩) (by assumption) ?_; rotate_left; (focus (intro w hSw; (try dsimp only at hSw); go_simp; (try with_reducible rfl))); (try simp only [Act.put, List.getElem_toArray, List.getElem_cons_zero, List.getElem_cons_succ, List.setIfInBounds_toArray, List.set_cons_zero, List.set_cons_succ])
            refine wpAnyT_take (i := 31) (oi := _) (v := .pointer (some ⟨ga, (i - 1) * 3, none⟩)) rfl (by kernel_rfl) (fun _ _ _ h => h) (Or.inl ⟨by kernel_rfl, by (intro w hSw; (try dsimp only at hSw); go_simp)⟩) (by assumption) ?_; (try simp only [Act.put, List.getElem_toArray, List.getElem_cons_zero, List.getElem_cons_succ, List.setIfInBounds_toArray, List.set_cons_zero, List.set_cons_succ])
            refine wpAnyT_take (i := 32) (oi := _) (v := ?_) rfl (by kernel_rfl) (fun _ _ _ h => h) (Or.inl ⟨by kernel_rfl, ?_⟩) (by assumption) ?_; rotate_left; (focus (intro w hSw; (try dsimp only at hSw); go_simp; (try with_reducible rfl))); (try simp only [Act.put, List.getElem_toArray, List.getElem_cons_zero, List.getElem_cons_succ, List.setIfInBounds_toArray, List.set_cons_zero, List.set_cons_succ])
            refine wpAnyT_take (i := 33) (oi := _) (v := ?_) rfl (by kernel_rfl) (fun _ _ _ h => h) (Or.inl ⟨by kernel_rfl, ?_⟩) (by assumption) ?_; rotate_left; (focus (intro w hSw; (try dsimp only at hSw); go_simp; (try with_reducible rfl))); (try simp only [Act.put, List.getElem_toArray, List.getElem_cons_zero, List.getElem_cons_succ, List.setIfInBounds_toArray, List.set_cons_zero, List.set_cons_succ])
            refine wpAnyT_take (i := 34) (oi := _) (v := ?_) rfl (by kernel_rfl) (fun _ _ _ h => h) (Or.inl ⟨by kernel_rfl, ?_⟩) (by assumption) ?_; rotate_left; (focus (intro w hSw; (try dsimp only at hSw); go_simp; (try with_reducible rfl))); (try simp only [Act.put, List.getElem_toArray, List.getElem_cons_zero, List.getElem_cons_succ, List.setIfInBounds_toArray, List.set_cons_zero, List.set_cons_succ])
            refine wpAnyT_take (i := 35) (oi := _) (v := ?_) rfl (by kernel_rfl) (fun _ _ _ h => h) (Or.inl ⟨by kernel_rfl, ?_⟩) (by assumption) ?_; rotate_left; (focus (intro w hSw; (try dsimp only at hSw); go_simp; (try with_reducible rfl))); (try simp only [Act.put, List.getElem_toArray, List.getElem_cons_zero, List.getElem_cons_succ, List.setIfInBounds_toArray, List.set_cons_zero, List.set_cons_succ])
            refine wpAnyT_take (i := 36) (oi := _) (v := ?_) rfl (by kernel_rfl) (fun _ _ _ h => h) (Or.inl ⟨by kernel_rfl, ?_⟩) (by assumption) ?_; rotate_left; (focus (intro w hSw; (try dsimp only at hSw); go_simp; (try with_reducible rfl))); (try simp only [Act.put, List.getElem_toArray, List.getElem_cons_zero, List.getElem_cons_succ, List.setIfInBounds_toArray, List.set_cons_zero, List.set_cons_succ])
            refine wpAnyT_take (i := 37) (oi := _) (v := ?_) rfl (by kernel_rfl) (fun _ _ _ h => h) (Or.inl ⟨by kernel_rfl, ?_⟩) (by assumption) ?_; rotate_left; (focus (intro w hSw; (try dsimp only at hSw); go_simp; (try with_reducible rfl))); (try simp only [Act.put, List.getElem_toArray, List.getElem_cons_zero, List.getElem_cons_succ, List.setIfInBounds_toArray, List.set_cons_zero, List.set_cons_succ])
            refine wpAnyT_take (i := 38) (oi := _) (v := ?_) rfl (by kernel_rfl) (fun _ _ _ h => h) (Or.inl ⟨by kernel_rfl, ?_⟩) (by assumption) ?_; rotate_left; (focus (intro w hSw; (try dsimp only at hSw); go_simp; (try with_reducible rfl))); (try simp only [Act.put, List.getElem_toArray, List.getElem_cons_zero, List.getElem_cons_succ, List.setIfInBounds_toArray, List.set_cons_zero, List.set_cons_succ])
            refine wpAnyT_take (i := 39) (oi := _) (v := ?_) rfl (by kernel_rfl) (fun _ _ _ h => h) (Or.inl ⟨by kernel_rfl, ?_⟩) (by assumption) ?_; rotate_left; (focus (intro w hSw; (try dsimp only at hSw); go_simp; (try with_reducible rfl))); (try simp only [Act.put, List.getElem_toArray, List.getElem_cons_zero, List.getElem_cons_succ, List.setIfInBounds_toArray, List.set_cons_zero, List.set_cons_succ])
            refine wpAnyT_take (i := 40) (oi := _) (v := ?_) rfl (by kernel_rfl) (fun _ _ _ h => h) (Or.inl ⟨by kernel_rfl, ?_⟩) (by assumption) ?_; rotate_left; (focus (intro w hSw; (try dsimp only at hSw); go_simp; (try with_reducible rfl))); (try simp only [Act.put, List.getElem_toArray, List.getElem_cons_zero, List.getElem_cons_succ, List.setIfInBounds_toArray, List.set_cons_zero, List.set_cons_succ])
            refine wpAnyT_done (by kernel_rfl) ?_ _
            have HBw : Hid (Below wa.heap.size wa (wa.drewN 1)) := Lib.hid (below_drewN_ (Below.refl _ _) 1)
            go_wp2
            go_meet
            exact ⟨_, rfl, rfl, HBw⟩
        · have dk : decide ((0 : Int) < (i : Int)) = false := dcf (by omega)
          refine wp_region_T 99 (fun w' => w'.cell? ⟨gx, 0, none⟩ = some (.int .i64 gw) ∧ w'.cell? ⟨gx, 1, none⟩ = some (.string gp) ∧ w'.cell? ⟨gx, 2, none⟩ = some (.slice gA gl.length gc)) (by kernel_rfl) (HBX.out _ (below_drewN_ (Below.refl _ _) 1)) (fun hHeld => ?_)
          refine wpAnyT_take (i := 0) (oi := _) (v := ?_) rfl (by kernel_rfl) (fun _ _ _ h => h) (Or.inl ⟨by kernel_rfl, ?_⟩) (by assumption) ?_; rotate_left; (focus (intro w hSw; (try dsimp only at hSw); go_simp; (try with_reducible rfl))); (try simp only [Act.put, List.getElem_toArray, List.getElem_cons_zero, List.setIfInBounds_toArray, List.set_cons_zero, List.set_cons_succ])
          refine wpAnyT_take (i := 1) (oi := _) (v := ?_) rfl (by kernel_rfl) (fun _ _ _ h => h) (Or.inl ⟨by kernel_rfl, ?_⟩) (by assumption) ?_; rotate_left; (focus (intro w hSw; (try dsimp only at hSw); go_simp; (try with_reducible rfl))); (try simp only [Act.put, List.getElem_toArray, List.getElem_cons_zero, List.getElem_cons_succ, List.setIfInBounds_toArray, List.set_cons_zero, List.set_cons_succ])
          refine wpAnyT_take (i := 2) (oi := _) (v := ?_) rfl (by kernel_rfl) (fun _ _ _ h => h) (Or.inl ⟨by kernel_rfl, ?_⟩) (by assumption) ?_; rotate_left; (focus (intro w hSw; (try dsimp only at hSw); go_simp; (try with_reducible rfl))); (try simp only [Act.put, List.getElem_toArray, List.getElem_cons_zero, List.getElem_cons_succ, List.setIfInBounds_toArray, List.set_cons_zero, List.set_cons_succ])
          refine wpAnyT_take (i := 3) (oi := _) (v := ?_) rfl (by kernel_rfl) (fun _ _ _ h => h) (Or.inl ⟨by kernel_rfl, ?_⟩) (by assumption) ?_; rotate_left; (focus (intro w hSw; (try dsimp only at hSw); go_simp; (try with_reducible rfl))); (try simp only [Act.put, List.getElem_toArray, List.getElem_cons_zero, List.getElem_cons_succ, List.setIfInBounds_toArray, List.set_cons_zero, List.set_cons_succ])
          refine wpAnyT_take (i := 4) (oi := _) (v := ?_) rfl (by kernel_rfl) (fun _ _ _ h => h) (Or.inl ⟨by kernel_rfl, ?_⟩) (by assumption) ?_; rotate_left; (focus (intro w hSw; (try dsimp only at hSw); go_simp; (try with_reducible rfl))); (try simp only [Act.put, List.getElem_toArray, List.getElem_cons_zero, List.getElem_cons_succ, List.setIfInBounds_toArray, List.set_cons_zero, List.set_cons_succ])
          refine wpAnyT_take (i := 5) (oi := _) (v := ?_) rfl (by kernel_rfl) (fun _ _ _ h => h) (Or.inl ⟨by kernel_rfl, ?_⟩) (by assumption) ?_; rotate_left; (focus (intro w hSw; (try dsimp only at hSw); go_simp; (try with_reducible rfl))); (try simp only [Act.put, List.getElem_toArray, List.getElem_cons_zero, List.getElem_cons_succ, List.setIfInBounds_toArray, List.set_cons_zero, List.set_cons_succ])
          refine wpAnyT_take (i := 6) (oi := _) (v := ?_) rfl (by kernel_rfl) (fun _ _ _ h => h) (Or.inl ⟨by kernel_rfl, ?_⟩) (by assumption) ?_; rotate_left; (focus (intro w hSw; (try dsimp only at hSw); go_simp; (try with_reducible rfl))); (try simp only [Act.put, List.getElem_toArray, List.getElem_cons_zero, List.getElem_cons_succ, List.setIfInBounds_toArray, List.set_cons_zero, List.set_cons_succ])
          refine wpAnyT_take (i := 7) (oi := _) (v := ?_) rfl (by kernel_rfl) (fun _ _ _ h => h) (Or.inl ⟨by kernel_rfl, ?_⟩) (by assumption) ?_; rotate_left; (focus (intro w hSw; (try dsimp only at hSw); go_simp; (try with_reducible rfl))); (try simp only [Act.put, List.getElem_toArray, List.getElem_cons_zero, List.getElem_cons_succ, List.setIfInBounds_toArray, List.set_cons_zero, List.set_cons_succ])
          refine wpAnyT_take (i := 8) (oi := _) (v := undef) rfl (by kernel_rfl) (fun _ _ _ h => h) (Or.inr ⟨by kernel_rfl, rfl⟩) (by assumption) ?_; (try simp only [Act.put, List.getElem_toArray, List.getElem_cons_zero, List.getElem_cons_succ, List.setIfInBounds_toArray, List.set_cons_zero, List.set_cons_succ])
          refine wpAnyT_take (i := 9) (oi := _) (v := undef) rfl (by kernel_rfl) (fun _ _ _ h => h) (Or.inr ⟨by kernel_rfl, rfl⟩) (by assumption) ?_; (try simp only [Act.put, List.getElem_toArray, List.getElem_cons_zero, List.getElem_cons_succ, List.setIfInBounds_toArray, List.set_cons_zero, List.set_cons_succ])
          refine wpAnyT_take (i := 10) (oi := _) (v := undef) rfl (by kernel_rfl) (fun _ _ _ h => h) (Or.inr ⟨by kernel_rfl, rfl⟩) (by assumption) ?_; (try simp only [Act.put, List.getElem_toArray, List.getElem_cons_zero, List.getElem_cons_succ, List.setIfInBounds_toArray, List.set_cons_zero, List.set_cons_succ])
          refine wpAnyT_take (i := 11) (oi := _) (v := undef) rfl (by kernel_rfl) (fun _ _ _ h => h) (Or.inr ⟨by kernel_rfl, rfl⟩) (by assumption) ?_; (try simp only [Act.put, List.getElem_toArray, List.getElem_cons_zero, List.getElem_cons_succ, List.setIfInBounds_toArray, List.set_cons_zero, List.set_cons_succ])
          refine wpAnyT_take (i := 12) (oi := _) (v := undef) rfl (by kernel_rfl) (fun _ _ _ h => h) (Or.inr ⟨by kernel_rfl, rfl⟩) (by assumption) ?_; (try simp only [Act.put, List.getElem_toArray, List.getElem_cons_zero, List.getElem_cons_succ, List.setIfInBounds_toArray, List.set_cons_zero, List.set_cons_succ])
          refine wpAnyT_take (i := 13) (oi := _) (v := undef) rfl (by kernel_rfl) (fun _ _ _ h => h) (Or.inr ⟨by kernel_rfl, rfl⟩) (by assumption) ?_; (try simp only [Act.put, List.getElem_toArray, List.getElem_cons_zero, List.getElem_cons_succ, List.setIfInBounds_toArray, List.set_cons_zero, List.set_cons_succ])
          refine wpAnyT_take (i := 14) (oi := _) (v := undef) rfl (by kernel_rfl) (fun _ _ _ h => h) (Or.inr ⟨by kernel_rfl, rfl⟩) (by assumption) ?_; (try simp only [Act.put, List.getElem_toArray, List.getElem_cons_zero, List.getElem_cons_succ, List.setIfInBounds_toArray, List.set_cons_zero, List.set_cons_succ])
          refine wpAnyT_take (i := 15) (oi := _) (v := undef) rfl (by kernel_rfl) (fun _ _ _ h => h) (Or.inr ⟨by kernel_rfl, rfl⟩) (by assumption) ?_; (try simp only [Act.put, List.getElem_toArray, List.getElem_cons_zero, List.getElem_cons_succ, List.setIfInBounds_toArray, List.set_cons_zero, List.set_cons_succ])
          refine wpAnyT_take (i := 16) (oi := _) (v := undef) rfl (by kernel_rfl) (fun _ _ _ h => h) (Or.inr ⟨by kernel_rfl, rfl⟩) (by assumption) ?_; (try simp only [Act.put, List.getElem_toArray, List.getElem_cons_zero, List.getElem_cons_succ, List.setIfInBounds_toArray, List.set_cons_zero, List.set_cons_succ])
          refine wpAnyT_take (i := 17) (oi := _) (v := undef) rfl (by kernel_rfl) (fun _ _ _ h => h) (Or.inr ⟨by kernel_rfl, rfl⟩) (by assumption) ?_; (try simp only [Act.put, List.getElem_toArray, List.getElem_cons_zero, List.getElem_cons_succ, List.setIfInBounds_toArray, List.set_cons_zero, List.set_cons_succ])
          refine wpAnyT_take (i := 18) (oi := _) (v := undef) rfl (by kernel_rfl) (fun _ _ _ h => h) (Or.inr ⟨by kernel_rfl, rfl⟩) (by assumption) ?_; (try simp only [Act.put, List.getElem_toArray, List.getElem_cons_zero, List.getElem_cons_succ, List.setIfInBounds_toArray, List.set_cons_zero, List.set_cons_succ])
          refine wpAnyT_take (i := 19) (oi := _) (v := undef) rfl (by kernel_rfl) (fun _ _ _ h => h) (Or.inr ⟨by kernel_rfl, rfl⟩) (by assumption) ?_; (try simp only [Act.put, List.getElem_toArray, List.getElem_cons_zero, List.getElem_cons_succ, List.setIfInBounds_toArray, List.set_cons_zero, List.set_cons_succ])
          refine wpAnyT_take (i := 20) (oi := _) (v := undef) rfl (by kernel_rfl) (fun _ _ _ h => h) (Or.inr ⟨by kernel_rfl, rfl⟩) (by assumption) ?_; (try simp only [Act.put, List.getElem_toArray, List.getElem_cons_zero, List.getElem_cons_succ, List.setIfInBounds_toArray, List.set_cons_zero, List.set_cons_succ])
          refine wpAnyT_take (i := 21) (oi := _) (v := undef) rfl (by kernel_rfl) (fun _ _ _ h => h) (Or.inr ⟨by kernel_rfl, rfl⟩) (by assumption) ?_; (try simp only [Act.put, List.getElem_toArray, List.getElem_cons_zero, List.getElem_cons_succ, List.setIfInBounds_toArray, List.set_cons_zero, List.set_cons_succ])
          refine wpAnyT_take (i := 22) (oi := _) (v := undef) rfl (by kernel_rfl) (fun _ _ _ h => h) (Or.inr ⟨by kernel_rfl, rfl⟩) (by assumption) ?_; (try simp only [Act.put, List.getElem_toArray, List.getElem_cons_zero, List.getElem_cons_succ, List.setIfInBounds_toArray, List.set_cons_zero, List.set_cons_succ])
          refine wpAnyT_take (i := 23) (oi := _) (v := undef) rfl (by kernel_rfl) (fun _ _ _ h => h) (Or.inr ⟨by kernel_rfl, rfl⟩) (by assumption) ?_; (try simp only [Act.put, List.getElem_toArray, List.getElem_cons_zero, List.getElem_cons_succ, List.setIfInBounds_toArray, List.set_cons_zero, List.set_cons_succ])
          refine wpAnyT_take (i := 24) (oi := _) (v := undef) rfl (by kernel_rfl) (fun _ _ _ h => h) (Or.inr ⟨by kernel_rfl, rfl⟩) (by assumption) ?_; (try simp only [Act.put, List.getElem_toArray, List.getElem_cons_zero, List.getElem_cons_succ, List.setIfInBounds_toArray, List.set_cons_zero, List.set_cons_succ])
          refine wpAnyT_take (i := 25) (oi := _) (v := undef) rfl (by kernel_rfl) (fun _ _ _ h => h) (Or.inr ⟨by kernel_rfl, rfl⟩) (by assumption) ?_; (try simp only [Act.put, List.getElem_toArray, List.getElem_cons_zero, List.getElem_cons_succ, List.setIfInBounds_toArray, List.set_cons_zero, List.set_cons_succ])
          refine wpAnyT_take (i := 26) (oi := _) (v := undef) rfl (by kernel_rfl) (fun _ _ _ h => h) (Or.inr ⟨by kernel_rfl, rfl⟩) (by assumption) ?_; (try simp only [Act.put, List.getElem_toArray, List.getElem_cons_zero, List.getElem_cons_succ, List.setIfInBounds_toArray, List.set_cons_zero, List.set_cons_succ])
          refine wpAnyT_take (i := 27) (oi := _) (v := undef) rfl (by kernel_rfl) (fun _ _ _ h => h) (Or.inr ⟨by kernel_rfl, rfl⟩) (by assumption) ?_; (try simp only [Act.put, List.getElem_toArray, List.getElem_cons_zero, List.getElem_cons_succ, List.setIfInBounds_toArray, List.set_cons_zero, List.set_cons_succ])
          refine wpAnyT_take (i := 28) (oi := _) (v := undef) rfl (by kernel_rfl) (fun _ _ _ h => h) (Or.inr ⟨by kernel_rfl, rfl⟩) (by assumption) ?_; (try simp only [Act.put, List.getElem_toArray, List.getElem_cons_zero, List.getElem_cons_succ, List.setIfInBounds_toArray, List.set_cons_zero, List.set_cons_succ])
          refine wpAnyT_take (i := 29) (oi := _) (v := undef) rfl (by kernel_rfl) (fun _ _ _ h => h) (Or.inr ⟨by kernel_rfl, rfl⟩) (by assumption) ?_; (try simp only [Act.put, List.getElem_toArray, List.getElem_cons_zero, List.getElem_cons_succ, List.setIfInBounds_toArray, List.set_cons_zero, List.set_cons_succ])
          refine wpAnyT_take (i := 30) (oi := _) (v := undef) rfl (by kernel_rfl) (fun _ _ _ h => h) (Or.inr ⟨by kernel_rfl, rfl⟩) (by assumption) ?_; (try simp only [Act.put, List.getElem_toArray, List.getElem_cons_zero, List.getElem_cons_succ, List.setIfInBounds_toArray, List.set_cons_zero, List.set_cons_succ])
          refine wpAnyT_take (i := 31) (oi := _) (v := undef) rfl (by kernel_rfl) (fun _ _ _ h => h) (Or.inr ⟨by kernel_rfl, rfl⟩) (by assumption) ?_; (try simp only [Act.put, List.getElem_toArray, List.getElem_cons_zero, List.getElem_cons_succ, List.setIfInBounds_toArray, List.set_cons_zero, List.set_cons_succ])
          refine wpAnyT_take (i := 32) (oi := _) (v := undef) rfl (by kernel_rfl) (fun _ _ _ h => h) (Or.inr ⟨by kernel_rfl, rfl⟩) (by assumption) ?_; (try simp only [Act.put, List.getElem_toArray, List.getElem_cons_zero, List.getElem_cons_succ, List.setIfInBounds_toArray, List.set_cons_zero, List.set_cons_succ])
          refine wpAnyT_take (i := 33) (oi := _) (v := undef) rfl (by kernel_rfl) (fun _ _ _ h => h) (Or.inr ⟨by kernel_rfl, rfl⟩) (by assumption) ?_; (try simp only [Act.put, List.getElem_toArray, List.getElem_cons_zero, List.getElem_cons_succ, List.setIfInBounds_toArray, List.set_cons_zero, List.set_cons_succ])
          refine wpAnyT_take (i := 34) (oi := _) (v := undef) rfl (by kernel_rfl) (fun _ _ _ h => h) (Or.inr ⟨by kernel_rfl, rfl⟩) (by assumption) ?_; (try simp only [Act.put, List.getElem_toArray, List.getElem_cons_zero, List.getElem_cons_succ, List.setIfInBounds_toArray, List.set_cons_zero, List.set_cons_succ])
          refine wpAnyT_take (i := 35) (oi := _) (v := undef) rfl (by kernel_rfl) (fun _ _ _ h => h) (Or.inr ⟨by kernel_rfl, rfl⟩) (by assumption) ?_; (try simp only [Act.put, List.getElem_toArray, List.getElem_cons_zero, List.getElem_cons_succ, List.setIfInBounds_toArray, List.set_cons_zero, List.set_cons_succ])
          refine wpAnyT_take (i := 36) (oi := _) (v := undef) rfl (by kernel_rfl) (fun _ _ _ h => h) (Or.inr ⟨by kernel_rfl, rfl⟩) (by assumption) ?_; (try simp only [Act.put, List.getElem_toArray, List.getElem_cons_zero, List.getElem_cons_succ, List.setIfInBounds_toArray, List.set_cons_zero, List.set_cons_succ])
          refine wpAnyT_take (i := 37) (oi := _) (v := undef) rfl (by kernel_rfl) (fun _ _ _ h => h) (Or.inr ⟨by kernel_rfl, rfl⟩) (by assumption) ?_; (try simp only [Act.put, List.getElem_toArray, List.getElem_cons_zero, List.getElem_cons_succ, List.setIfInBounds_toArray, List.set_cons_zero, List.set_cons_succ])
          refine wpAnyT_take (i := 38) (oi := _) (v := undef) rfl (by kernel_rfl) (fun _ _ _ h => h) (Or.inr ⟨by kernel_rfl, rfl⟩) (by assumption) ?_; (try simp only [Act.put, List.getElem_toArray, List.getElem_cons_zero, List.getElem_cons_succ, List.setIfInBounds_toArray, List.set_cons_zero, List.set_cons_succ])
          refine wpAnyT_take (i := 39) (oi := _) (v := ?_) rfl (by kernel_rfl) (fun _ _ _ h => h) (Or.inl ⟨by kernel_rfl, ?_⟩) (by assumption) ?_; rotate_left; (focus (intro w hSw; (try dsimp only at hSw); go_simp; (try with_reducible rfl))); (try simp only [Act.put, List.getElem_toArray, List.getElem_cons_zero, List.getElem_cons_succ, List.setIfInBounds_toArray, List.set_cons_zero, List.set_cons_succ])
          refine wpAnyT_take (i := 40) (oi := _) (v := ?_) rfl (by kernel_rfl) (fun _ _ _ h => h) (Or.inl ⟨by kernel_rfl, ?_⟩) (by assumption) ?_; rotate_left; (focus (intro w hSw; (try dsimp only at hSw); go_simp; (try with_reducible rfl))); (try simp only [Act.put, List.getElem_toArray, List.getElem_cons_zero, List.getElem_cons_succ, List.setIfInBounds_toArray, List.set_cons_zero, List.set_cons_succ])
          refine wpAnyT_done (by kernel_rfl) ?_ _
          have HBw : Hid (Below wa.heap.size wa (wa.drewN 1)) := Lib.hid (below_drewN_ (Below.refl _ _) 1)
          go_wp2
          go_meet
          exact ⟨_, rfl, rfl, HBw⟩
      case rest =>
        obtain ⟨wb, rfl, rfl, HBw⟩ := hcut
        clear Hx Hy HRi hfull
        obtain ⟨x0, x1, x2⟩ := HBX.out wb HBw.out
        have hgl60 : gl.length ≤ 60 := by have := HLg.out; omega
        go_wp2
        go_loopw [90] (fun vk wr => ∃ k : Nat, k ≤ gl.length ∧ vk = .int .i64 (k : Int) ∧ Hid (Below wa.heap.size wa wr)) (fun vk _ => gl.length - (intOf vk).toNat)
        case atStart => exact ⟨0, Nat.zero_le _, rfl, HBw⟩
        case round =>
          clear HBw x0 x1 x2
          obtain ⟨k, hk, rfl, HBj⟩ := hrel
          have h3w : Below w3.heap.size w3 wr := HBr.out.trans ((HBa.out.trans (HBj.out.mono HBa.out.size)).mono hsr)
          have H3w := Lib.hid h3w
          have hrr := HRg.out.below h3w
          clear h3w
          by_cases hltk : k < gl.length
          · obtain ⟨rb, ro, eA, hrb, -⟩ := reads_nine hrr.reads (by omega)
            have Hrd := Lib.hid fun W (hW : Below wr.heap.size wr W) j (hj : j < gl.length) => reads_nine_at (hrr.reads.below (hW.mono (by have := H3w.out.size; omega))) eA hj
            have hmx : Sr.gt gl k ∈ gl := by rw [← Sr.gt_eq hltk]; exact List.getElem_mem _
            have kx := hrr.each _ hmx
            have HKx := HKe.out _ hmx
            have HRx := Lib.hid (HRt.out _ (HMe.out _ hmx))
            have HPv := Lib.hid fun (hp : 0 < k) => HSo.out (k - 1) (by omega)
            have ek : ∀ hp : 0 < k, k - 1 + 1 = k := fun hp => by omega
            have HPw : Hid (0 < k → cfR (Sr.gt gl (k - 1)) (Sr.gt gl k) ≤ 0) := Lib.hid fun hp => by have := HPv.out hp; rwa [ek hp] at this
            have Hc0 := Lib.hid fun W hW => Hrd.out W hW k hltk
            have Hc1 := Lib.hid fun W hW (hp : 0 < k) => Hrd.out W hW (k - 1) (by omega)
            have HCm := Lib.hid fun W => cmpRw_calls W (Sr.gt gl (k - 1)) (Sr.gt gl k)
            clear hmx hrr HPv ek Hrd
            generalize Sr.gt gl k = x at *
            generalize Sr.gt gl (k - 1) = y at *
            have hq : x.time.tdiv win = gw := congrArg Prod.fst HKx
            have hpt : textP (partB x.labs by_) = gp := congrArg Prod.snd HKx
            clear HKx
            have hwr : IntKind.i64.wrap (x.time.tdiv win) = x.time.tdiv win := wrap_i64_tdiv _ _ kx.time.1 kx.time.2 hw
            have HQ := Lib.hid hq
            clear hq
            have HK1 := Lib.hid kx
            obtain ⟨p0, p1, p2, p3, p4, p5, p6, p7, p8⟩ := Hc0.out wr (Below.refl _ _)
            subst eA
            have j0 : (0 : Int) ≤ (k : Int) := by omega
            have j9 : (k : Int) < (gl.length : Int) := by omega
            clear kx
            go_upto_region 13 with fail
            have hbk := Blk.new wr 37 #[.int .i64 x.kind, .int .i64 x.time, .slice x.A x.labs.length x.cp, .string x.text, .int .i64 x.value, .bool x.null, .int .i64 x.maker, .int .i64 x.seq, .int .i64 x.place]
            have hba := (Below.refl wr.heap.size wr).alloc (Nat.le_refl _) (.cells #[.int .i64 x.kind, .int .i64 x.time, .slice x.A x.labs.length x.cp, .string x.text, .int .i64 x.value, .bool x.null, .int .i64 x.maker, .int .i64 x.seq, .int .i64 x.place] 37)
            obtain ⟨gy, hgy⟩ : ∃ gy, gy = wr.heap.size := ⟨_, rfl⟩
            rw [← hgy] at hbk ⊢
            clear hgy p0 p1 p2 p3 p4 p5 p6 p7 p8
            have hszr := HBj.out.size
            generalize wr.alloc (.cells #[.int .i64 x.kind, .int .i64 x.time, .slice x.A x.labs.length x.cp, .string x.text, .int .i64 x.value, .bool x.null, .int .i64 x.maker, .int .i64 x.seq, .int .i64 x.place] 37) = wc at *
            have HBy := Lib.hid hbk
            have HBc := Lib.hid hba
            clear hbk hba
            have H3c : Hid (Below w3.heap.size w3 wc) := Lib.hid (H3w.out.trans (HBc.out.mono H3w.out.size))
            have HBjc : Hid (Below wa.heap.size wa wc) := Lib.hid (HBj.out.trans (HBc.out.mono HBj.out.size))
            have HPt := Lib.hid fun W (hW : Below wc.heap.size wc W) => partR_calls W (c := x.cp) (c2 := cb) (HK1.out.labs.below ((HBc.out.trans (hW.mono HBc.out.size)).mono (by have := H3w.out.size; omega))) (by have := hW.size; have := H3c.out.size; omega) (HST.out.below (((HB03.out.trans ((H3c.out.trans (hW.mono H3c.out.size)).mono HB03.out.size))).mono hB2)) (by have := hW.size; have := H3c.out.size; have := HB03.out.size; omega) HK1.out.len (by omega)
            have hpl := part_le x.labs by_
            have hkl := HK1.out.len
            have HTx := Lib.hid fun (W : World) (A9 : Option Addr) (c9 : Nat) (hL : Labs W W.heap.size A9 (partB x.labs by_)) => textR_P W (c := c9) hL (Nat.le_refl _) (by omega) (right_part HRx.out by_)
            rw [hpt] at HTx
            clear hpl hkl hpt
            have ns : (gp.toList == gp.toList) = true := by simp
            have HKa : Hid (∀ W, Below wc.heap.size wc W → (W.cell? ⟨gy, 0, none⟩ = some (.int .i64 x.kind) ∧ W.cell? ⟨gy, 1, none⟩ = some (.int .i64 x.time) ∧ W.cell? ⟨gy, 2, none⟩ = some (.slice x.A x.labs.length x.cp) ∧ W.cell? ⟨gy, 3, none⟩ = some (.string x.text) ∧ W.cell? ⟨gy, 4, none⟩ = some (.int .i64 x.value) ∧ W.cell? ⟨gy, 5, none⟩ = some (.bool x.null) ∧ W.cell? ⟨gy, 6, none⟩ = some (.int .i64 x.maker) ∧ W.cell? ⟨gy, 7, none⟩ = some (.int .i64 x.seq) ∧ W.cell? ⟨gy, 8, none⟩ = some (.int .i64 x.place)) ∧ W.cell? ⟨gx, 0, none⟩ = some (.int .i64 gw) ∧ W.cell? ⟨gx, 1, none⟩ = some (.string gp) ∧ W.cell? ⟨gx, 2, none⟩ = some (.slice (some ⟨rb, ro, none⟩) gl.length gc)) := Lib.hid fun W hW => ⟨blk_nineR (HBy.out.below hW HBy.out.lt), HBX.out W (HBjc.out.trans (hW.mono HBjc.out.size))⟩
            have nz : (x.time.tdiv win != gw) = false := nef HQ.out
            have HW0 : Hid (Below wc.heap.size wc wc.drew) := Lib.hid (below_drewN_ (Below.refl _ _) 1)
            unfold rwA at HCm
            by_cases hp : 0 < k
            · have dk : decide ((0 : Int) < (k : Int)) = true := dct (by omega)
              have k0 : (0 : Int) ≤ (k : Int) - 1 := by omega
              have k9 : (k : Int) - 1 < (gl.length : Int) := by omega
              have k1 : (1 : Int) ≤ (k : Int) := by omega
              have k2 : ¬ (k : Int) < 1 := by omega
              have e1 : ((k : Int) - 1).toNat = k - 1 := by omega
              have n1 : IntKind.i64.wrap ((k : Int) - 1) = (k : Int) - 1 := IntWalk.i64_in _ (by omega)
              have HKb : Hid (∀ W, Below wc.heap.size wc W → ((W.cell? ⟨gy, 0, none⟩ = some (.int .i64 x.kind) ∧ W.cell? ⟨gy, 1, none⟩ = some (.int .i64 x.time) ∧ W.cell? ⟨gy, 2, none⟩ = some (.slice x.A x.labs.length x.cp) ∧ W.cell? ⟨gy, 3, none⟩ = some (.string x.text) ∧ W.cell? ⟨gy, 4, none⟩ = some (.int .i64 x.value) ∧ W.cell? ⟨gy, 5, none⟩ = some (.bool x.null) ∧ W.cell? ⟨gy, 6, none⟩ = some (.int .i64 x.maker) ∧ W.cell? ⟨gy, 7, none⟩ = some (.int .i64 x.seq) ∧ W.cell? ⟨gy, 8, none⟩ = some (.int .i64 x.place)) ∧ W.cell? ⟨gx, 0, none⟩ = some (.int .i64 gw) ∧ W.cell? ⟨gx, 1, none⟩ = some (.string gp) ∧ W.cell? ⟨gx, 2, none⟩ = some (.slice (some ⟨rb, ro, none⟩) gl.length gc)) ∧ W.cell? ⟨rb, ro + (k - 1) * 9, none⟩ = some (.int .i64 y.kind) ∧ W.cell? ⟨rb, ro + (k - 1) * 9 + 1, none⟩ = some (.int .i64 y.time) ∧ W.cell? ⟨rb, ro + (k - 1) * 9 + 2, none⟩ = some (.slice y.A y.labs.length y.cp) ∧ W.cell? ⟨rb, ro + (k - 1) * 9 + 3, none⟩ = some (.string y.text) ∧ W.cell? ⟨rb, ro + (k - 1) * 9 + 4, none⟩ = some (.int .i64 y.value) ∧ W.cell? ⟨rb, ro + (k - 1) * 9 + 5, none⟩ = some (.bool y.null) ∧ W.cell? ⟨rb, ro + (k - 1) * 9 + 6, none⟩ = some (.int .i64 y.maker) ∧ W.cell? ⟨rb, ro + (k - 1) * 9 + 7, none⟩ = some (.int .i64 y.seq) ∧ W.cell? ⟨rb, ro + (k - 1) * 9 + 8, none⟩ = some (.int .i64 y.place)) := Lib.hid fun W hW => ⟨HKa.out W hW, Hc1.out W (HBc.out.trans (hW.mono HBc.out.size)) hp⟩
              have hcm := HPw.out hp
              generalize cfR y x = zc at *
              have dz : decide (0 < zc) = false := dcf (by omega)
              clear hcm HPw HKa Hc0 Hc1
              refine wp_region_T 99 (fun w' => ((w'.cell? ⟨gy, 0, none⟩ = some (.int .i64 x.kind) ∧ w'.cell? ⟨gy, 1, none⟩ = some (.int .i64 x.time) ∧ w'.cell? ⟨gy, 2, none⟩ = some (.slice x.A x.labs.length x.cp) ∧ w'.cell? ⟨gy, 3, none⟩ = some (.string x.text) ∧ w'.cell? ⟨gy, 4, none⟩ = some (.int .i64 x.value) ∧ w'.cell? ⟨gy, 5, none⟩ = some (.bool x.null) ∧ w'.cell? ⟨gy, 6, none⟩ = some (.int .i64 x.maker) ∧ w'.cell? ⟨gy, 7, none⟩ = some (.int .i64 x.seq) ∧ w'.cell? ⟨gy, 8, none⟩ = some (.int .i64 x.place)) ∧ w'.cell? ⟨gx, 0, none⟩ = some (.int .i64 gw) ∧ w'.cell? ⟨gx, 1, none⟩ = some (.string gp) ∧ w'.cell? ⟨gx, 2, none⟩ = some (.slice (some ⟨rb, ro, none⟩) gl.length gc)) ∧ w'.cell? ⟨rb, ro + (k - 1) * 9, none⟩ = some (.int .i64 y.kind) ∧ w'.cell? ⟨rb, ro + (k - 1) * 9 + 1, none⟩ = some (.int .i64 y.time) ∧ w'.cell? ⟨rb, ro + (k - 1) * 9 + 2, none⟩ = some (.slice y.A y.labs.length y.cp) ∧ w'.cell? ⟨rb, ro + (k - 1) * 9 + 3, none⟩ = some (.string y.text) ∧ w'.cell? ⟨rb, ro + (k - 1) * 9 + 4, none⟩ = some (.int .i64 y.value) ∧ w'.cell? ⟨rb, ro + (k - 1) * 9 + 5, none⟩ = some (.bool y.null) ∧ w'.cell? ⟨rb, ro + (k - 1) * 9 + 6, none⟩ = some (.int .i64 y.maker) ∧ w'.cell? ⟨rb, ro + (k - 1) * 9 + 7, none⟩ = some (.int .i64 y.seq) ∧ w'.cell? ⟨rb, ro + (k - 1) * 9 + 8, none⟩ = some (.int .i64 y.place)) (by kernel_rfl) (HKb.out _ HW0.out) (fun hHeld => ?_)
              generalize wc.drew = u0 at *
              refine wpAnyT_take (i := 0) (oi := _) (v := ?_) rfl (by kernel_rfl) (fun _ _ _ h => h) (Or.inl ⟨by kernel_rfl, ?_⟩) (by assumption) ?_; rotate_left; (focus (intro w hSw; (try dsimp only at hSw); go_simp; (try with_reducible rfl))); (try simp only [Act.put, List.getElem_toArray, List.getElem_cons_zero, List.setIfInBounds_toArray, List.set_cons_zero, List.set_cons_succ])
              refine wpAnyT_take (i := 1) (oi := _) (v := ?_) rfl (by kernel_rfl) (fun _ _ _ h => h) (Or.inl ⟨by kernel_rfl, ?_⟩) (by assumption) ?_; rotate_left; (focus (intro w hSw; (try dsimp only at hSw); go_simp; (try with_reducible rfl))); (try simp only [Act.put, List.getElem_toArray, List.getElem_cons_zero, List.getElem_cons_succ, List.setIfInBounds_toArray, List.set_cons_zero, List.set_cons_succ])
              refine wpAnyT_take (i := 2) (oi := _) (v := ?_) rfl (by kernel_rfl) (fun _ _ _ h => h) (Or.inl ⟨by kernel_rfl, ?_⟩) (by assumption) ?_; rotate_left; (focus (intro w hSw; (try dsimp only at hSw); go_simp; (try with_reducible rfl))); (try simp only [Act.put, List.getElem_toArray, List.getElem_cons_zero, List.getElem_cons_succ, List.setIfInBounds_toArray, List.set_cons_zero, List.set_cons_succ])
              refine wpAnyT_take (i := 3) (oi := _) (v := ?_) rfl (by kernel_rfl) (fun _ _ _ h => h) (Or.inl ⟨by kernel_rfl, ?_⟩) (by assumption) ?_; rotate_left; (focus (intro w hSw; (try dsimp only at hSw); go_simp; (try with_reducible rfl))); (try simp only [Act.put, List.getElem_toArray, List.getElem_cons_zero, List.getElem_cons_succ, List.setIfInBounds_toArray, List.set_cons_zero, List.set_cons_succ])
              refine wpAnyT_take (i := 4) (oi := _) (v := ?_) rfl (by kernel_rfl) (fun _ _ _ h => h) (Or.inl ⟨by kernel_rfl, ?_⟩) (by assumption) ?_; rotate_left; (focus (intro w hSw; (try dsimp only at hSw); go_simp; (try with_reducible rfl))); (try simp only [Act.put, List.getElem_toArray, List.getElem_cons_zero, List.getElem_cons_succ, List.setIfInBounds_toArray, List.set_cons_zero, List.set_cons_succ])
              refine wpAnyT_take (i := 5) (oi := _) (v := ?_) rfl (by kernel_rfl) (fun _ _ _ h => h) (Or.inl ⟨by kernel_rfl, ?_⟩) (by assumption) ?_; rotate_left; (focus (intro w hSw; (try dsimp only at hSw); go_simp; (try with_reducible rfl))); (try simp only [Act.put, List.getElem_toArray, List.getElem_cons_zero, List.getElem_cons_succ, List.setIfInBounds_toArray, List.set_cons_zero, List.set_cons_succ])
              refine wpAnyT_take (i := 6) (oi := _) (v := ?_) rfl (by kernel_rfl) (fun _ _ _ h => h) (Or.inl ⟨by kernel_rfl, ?_⟩) (by assumption) ?_; rotate_left; (focus (intro w hSw; (try dsimp only at hSw); go_simp; (try with_reducible rfl))); (try simp only [Act.put, List.getElem_toArray, List.getElem_cons_zero, List.getElem_cons_succ, List.setIfInBounds_toArray, List.set_cons_zero, List.set_cons_succ])
              refine wpAnyT_take (i := 7) (oi := _) (v := ?_) rfl (by kernel_rfl) (fun _ _ _ h => h) (Or.inl ⟨by kernel_rfl, ?_⟩) (by assumption) ?_; rotate_left; (focus (intro w hSw; (try dsimp only at hSw); go_simp; (try with_reducible rfl))); (try simp only [Act.put, List.getElem_toArray, List.getElem_cons_zero, List.getElem_cons_succ, List.setIfInBounds_toArray, List.set_cons_zero, List.set_cons_succ])
              refine wpAnyT_take (i := 8) (oi := _) (v := ?_) rfl (by kernel_rfl) (fun _ _ _ h => h) (Or.inl ⟨by kernel_rfl, ?_⟩) (by assumption) ?_; rotate_left; (focus (intro w hSw; (try dsimp only at hSw); go_simp; (try with_reducible rfl))); (try simp only [Act.put, List.getElem_toArray, List.getElem_cons_zero, List.getElem_cons_succ, List.setIfInBounds_toArray, List.set_cons_zero, List.set_cons_succ])
              refine wpAnyT_take (i := 9) (oi := _) (v := ?_) rfl (by kernel_rfl) (fun _ _ _ h => h) (Or.inl ⟨by kernel_rfl, ?_⟩) (by assumption) ?_; rotate_left; (focus (intro w hSw; (try dsimp only at hSw); go_simp; (try with_reducible rfl))); (try simp only [Act.put, List.getElem_toArray, List.getElem_cons_zero, List.getElem_cons_succ, List.setIfInBounds_toArray, List.set_cons_zero, List.set_cons_succ])
              refine wpAnyT_take (i := 10) (oi := _) (v := ?_) rfl (by kernel_rfl) (fun _ _ _ h => h) (Or.inl ⟨by kernel_rfl, ?_⟩) (by assumption) ?_; rotate_left; (focus (intro w hSw; (try dsimp only at hSw); go_simp; (try with_reducible rfl))); (try simp only [Act.put, List.getElem_toArray, List.getElem_cons_zero, List.getElem_cons_succ, List.setIfInBounds_toArray, List.set_cons_zero, List.set_cons_succ])
              refine wpAnyT_take (i := 11) (oi := _) (v := ?_) rfl (by kernel_rfl) (fun _ _ _ h => h) (Or.inl ⟨by kernel_rfl, ?_⟩) (by assumption) ?_; rotate_left; (focus (intro w hSw; (try dsimp only at hSw); go_simp; (try with_reducible rfl))); (try simp only [Act.put, List.getElem_toArray, List.getElem_cons_zero, List.getElem_cons_succ, List.setIfInBounds_toArray, List.set_cons_zero, List.set_cons_succ])
              refine wpAnyT_take (i := 12) (oi := _) (v := ?_) rfl (by kernel_rfl) (fun _ _ _ h => h) (Or.inl ⟨by kernel_rfl, ?_⟩) (by assumption) ?_; rotate_left; (focus (intro w hSw; (try dsimp only at hSw); go_simp; (try with_reducible rfl))); (try simp only [Act.put, List.getElem_toArray, List.getElem_cons_zero, List.getElem_cons_succ, List.setIfInBounds_toArray, List.set_cons_zero, List.set_cons_succ])
              refine wpAnyT_take (i := 15) (oi := _) (v := ?_) rfl (by kernel_rfl) (fun _ _ _ h => h) (Or.inl ⟨by kernel_rfl, ?_⟩) (by assumption) ?_; rotate_left; (focus (intro w hSw; (try dsimp only at hSw); go_simp; (try with_reducible rfl))); (try simp only [Act.put, List.getElem_toArray, List.getElem_cons_zero, List.getElem_cons_succ, List.setIfInBounds_toArray, List.set_cons_zero, List.set_cons_succ])
              refine wpAnyT_take (i := 16) (oi := _) (v := ?_) rfl (by kernel_rfl) (fun _ _ _ h => h) (Or.inl ⟨by kernel_rfl, ?_⟩) (by assumption) ?_; rotate_left; (focus (intro w hSw; (try dsimp only at hSw); go_simp; (try with_reducible rfl))); (try simp only [Act.put, List.getElem_toArray, List.getElem_cons_zero, List.getElem_cons_succ, List.setIfInBounds_toArray, List.set_cons_zero, List.set_cons_succ])
              refine wpAnyT_one (i := 13) (by kernel_rfl) rfl (fun K hK => ?_); go_simp
              refine (HPt.out u0 HW0.out).mono ?_
              rintro en u1 ⟨A9, c9, rfl, hlb, -, hb9⟩
              have HB1 := Lib.hid (HW0.out.trans (hb9.mono HW0.out.size))
              have hS1 := HKb.out _ HB1.out
              refine hK.out _ _ (fun _ => hS1) ?_
              clear hK K hHeld hb9
              (try simp only [Act.put, List.getElem_toArray, List.getElem_cons_zero, List.getElem_cons_succ, List.setIfInBounds_toArray, List.set_cons_zero, List.set_cons_succ])
              refine wpAnyT_one (i := 14) (by kernel_rfl) rfl (fun K hK => ?_); go_simp
              refine (HTx.out u1 _ _ hlb).mono ?_
              rintro en u2 ⟨rfl, hb9⟩
              have HB2x := Lib.hid (HB1.out.trans (hb9.mono HB1.out.size))
              have hS2 := HKb.out _ HB2x.out
              refine hK.out _ _ (fun _ => hS2) ?_
              clear hK K hS1 hb9 hlb HB1
              (try simp only [Act.put, List.getElem_toArray, List.getElem_cons_zero, List.getElem_cons_succ, List.setIfInBounds_toArray, List.set_cons_zero, List.set_cons_succ])
              refine wpAnyT_take (i := 17) (oi := _) (v := ?_) rfl (by kernel_rfl) (fun _ _ _ h => h) (Or.inl ⟨by kernel_rfl, ?_⟩) (by assumption) ?_; rotate_left; (focus (intro w hSw; (try dsimp only at hSw); go_simp; (try with_reducible rfl))); (try simp only [Act.put, List.getElem_toArray, List.getElem_cons_zero, List.getElem_cons_succ, List.setIfInBounds_toArray, List.set_cons_zero, List.set_cons_succ])
              refine wpAnyT_take (i := 18) (oi := _) (v := ?_) rfl (by kernel_rfl) (fun _ _ _ h => h) (Or.inl ⟨by kernel_rfl, ?_⟩) (by assumption) ?_; rotate_left; (focus (intro w hSw; (try dsimp only at hSw); go_simp; (try with_reducible rfl))); (try simp only [Act.put, List.getElem_toArray, List.getElem_cons_zero, List.getElem_cons_succ, List.setIfInBounds_toArray, List.set_cons_zero, List.set_cons_succ])
              refine wpAnyT_take (i := 19) (oi := _) (v := ?_) rfl (by kernel_rfl) (fun _ _ _ h => h) (Or.inl ⟨by kernel_rfl, ?_⟩) (by assumption) ?_; rotate_left; (focus (intro w hSw; (try dsimp only at hSw); go_simp; (try with_reducible rfl))); (try simp only [Act.put, List.getElem_toArray, List.getElem_cons_zero, List.getElem_cons_succ, List.setIfInBounds_toArray, List.set_cons_zero, List.set_cons_succ])
              refine wpAnyT_take (i := 20) (oi := _) (v := ?_) rfl (by kernel_rfl) (fun _ _ _ h => h) (Or.inl ⟨by kernel_rfl, ?_⟩) (by assumption) ?_; rotate_left; (focus (intro w hSw; (try dsimp only at hSw); go_simp; (try with_reducible rfl))); (try simp only [Act.put, List.getElem_toArray, List.getElem_cons_zero, List.getElem_cons_succ, List.setIfInBounds_toArray, List.set_cons_zero, List.set_cons_succ])
              refine wpAnyT_take (i := 21) (oi := _) (v := ?_) rfl (by kernel_rfl) (fun _ _ _ h => h) (Or.inl ⟨by kernel_rfl, ?_⟩) (by assumption) ?_; rotate_left; (focus (intro w hSw; (try dsimp only at hSw); go_simp; (try with_reducible rfl))); (try simp only [Act.put, List.getElem_toArray, List.getElem_cons_zero, List.getElem_cons_succ, List.setIfInBounds_toArray, List.set_cons_zero, List.set_cons_succ])
              refine wpAnyT_take (i := 22) (oi := _) (v := ?_) rfl (by kernel_rfl) (fun _ _ _ h => h) (Or.inl ⟨by kernel_rfl, ?_⟩) (by assumption) ?_; rotate_left; (focus (intro w hSw; (try dsimp only at hSw); go_simp; (try with_reducible rfl))); (try simp only [Act.put, List.getElem_toArray, List.getElem_cons_zero, List.getElem_cons_succ, List.setIfInBounds_toArray, List.set_cons_zero, List.set_cons_succ])
              refine wpAnyT_take (i := 23) (oi := _) (v := ?_) rfl (by kernel_rfl) (fun _ _ _ h => h) (Or.inl ⟨by kernel_rfl, ?_⟩) (by assumption) ?_; rotate_left; (focus (intro w hSw; (try dsimp only at hSw); go_simp; (try with_reducible rfl))); (try simp only [Act.put, List.getElem_toArray, List.getElem_cons_zero, List.getElem_cons_succ, List.setIfInBounds_toArray, List.set_cons_zero, List.set_cons_succ])
              refine wpAnyT_take (i := 24) (oi := _) (v := ?_) rfl (by kernel_rfl) (fun _ _ _ h => h) (Or.inl ⟨by kernel_rfl, ?_⟩) (by assumption) ?_; rotate_left; (focus (intro w hSw; (try dsimp only at hSw); go_simp; (try with_reducible rfl))); (try simp only [Act.put, List.getElem_toArray, List.getElem_cons_zero, List.getElem_cons_succ, List.setIfInBounds_toArray, List.set_cons_zero, List.set_cons_succ])
              refine wpAnyT_take (i := 25) (oi := _) (v := ?_) rfl (by kernel_rfl) (fun _ _ _ h => h) (Or.inl ⟨by kernel_rfl, ?_⟩) (by assumption) ?_; rotate_left; (focus (intro w hSw; (try dsimp only at hSw); go_simp; (try with_reducible rfl))); (try simp only [Act.put, List.getElem_toArray, List.getElem_cons_zero, List.getElem_cons_succ, List.setIfInBounds_toArray, List.set_cons_zero, List.set_cons_succ])
              refine wpAnyT_take (i := 26) (oi := _) (v := ?_) rfl (by kernel_rfl) (fun _ _ _ h => h) (Or.inl ⟨by kernel_rfl, ?_⟩) (by assumption) ?_; rotate_left; (focus (intro w hSw; (try dsimp only at hSw); go_simp; (try with_reducible rfl))); (try simp only [Act.put, List.getElem_toArray, List.getElem_cons_zero, List.getElem_cons_succ, List.setIfInBounds_toArray, List.set_cons_zero, List.set_cons_succ])
              refine wpAnyT_take (i := 27) (oi := _) (v := .pointer (some ⟨rb, ro + (k - 1) * 9, none⟩)) rfl (by kernel_rfl) (fun _ _ _ h => h) (Or.inl ⟨by kernel_rfl, by (intro w hSw; (try dsimp only at hSw); go_simp)⟩) (by assumption) ?_; (try simp only [Act.put, List.getElem_toArray, List.getElem_cons_zero, List.getElem_cons_succ, List.setIfInBounds_toArray, List.set_cons_zero, List.set_cons_succ])
              refine wpAnyT_take (i := 28) (oi := _) (v := ?_) rfl (by kernel_rfl) (fun _ _ _ h => h) (Or.inl ⟨by kernel_rfl, ?_⟩) (by assumption) ?_; rotate_left; (focus (intro w hSw; (try dsimp only at hSw); go_simp; (try with_reducible rfl))); (try simp only [Act.put, List.getElem_toArray, List.getElem_cons_zero, List.getElem_cons_succ, List.setIfInBounds_toArray, List.set_cons_zero, List.set_cons_succ])
              refine wpAnyT_take (i := 29) (oi := _) (v := ?_) rfl (by kernel_rfl) (fun _ _ _ h => h) (Or.inl ⟨by kernel_rfl, ?_⟩) (by assumption) ?_; rotate_left; (focus (intro w hSw; (try dsimp only at hSw); go_simp; (try with_reducible rfl))); (try simp only [Act.put, List.getElem_toArray, List.getElem_cons_zero, List.getElem_cons_succ, List.setIfInBounds_toArray, List.set_cons_zero, List.set_cons_succ])
              refine wpAnyT_one (i := 30) (by kernel_rfl) rfl (fun K hK => ?_); go_simp
              refine (HCm.out u2).mono ?_
              rintro en u3 ⟨rfl, hb9⟩
              have HB3x := Lib.hid (HB2x.out.trans (hb9.mono HB2x.out.size))
              have hS3 := HKb.out _ HB3x.out
              refine hK.out _ _ (fun _ => hS3) ?_
              clear hK K hS2 hb9 HB2x
              (try simp only [Act.put, List.getElem_toArray, List.getElem_cons_zero, List.getElem_cons_succ, List.setIfInBounds_toArray, List.set_cons_zero, List.set_cons_succ])
              refine wpAnyT_take (i := 31) (oi := _) (v := ?_) rfl (by kernel_rfl) (fun _ _ _ h => h) (Or.inl ⟨by kernel_rfl, ?_⟩) (by assumption) ?_; rotate_left; (focus (intro w hSw; (try dsimp only at hSw); go_simp; (try with_reducible rfl))); (try simp only [Act.put, List.getElem_toArray, List.getElem_cons_zero, List.getElem_cons_succ, List.setIfInBounds_toArray, List.set_cons_zero, List.set_cons_succ])
              refine wpAnyT_take (i := 32) (oi := _) (v := ?_) rfl (by kernel_rfl) (fun _ _ _ h => h) (Or.inl ⟨by kernel_rfl, ?_⟩) (by assumption) ?_; rotate_left; (focus (intro w hSw; (try dsimp only at hSw); go_simp; (try with_reducible rfl))); (try simp only [Act.put, List.getElem_toArray, List.getElem_cons_zero, List.getElem_cons_succ, List.setIfInBounds_toArray, List.set_cons_zero, List.set_cons_succ])
              refine wpAnyT_take (i := 33) (oi := _) (v := ?_) rfl (by kernel_rfl) (fun _ _ _ h => h) (Or.inl ⟨by kernel_rfl, ?_⟩) (by assumption) ?_; rotate_left; (focus (intro w hSw; (try dsimp only at hSw); go_simp; (try with_reducible rfl))); (try simp only [Act.put, List.getElem_toArray, List.getElem_cons_zero, List.getElem_cons_succ, List.setIfInBounds_toArray, List.set_cons_zero, List.set_cons_succ])
              refine wpAnyT_done (by kernel_rfl) ?_ _
              have HBn : Hid (Below wa.heap.size wa u3) := Lib.hid (HBjc.out.trans (HB3x.out.mono HBjc.out.size))
              go_wp2
              go_roundw
              case rel => exact ⟨k + 1, by omega, by go_num, HBn⟩
              case measure => simp [intOf]; omega
            · have dk : decide ((0 : Int) < (k : Int)) = false := dcf (by omega)
              clear HPw Hc0 Hc1 HCm
              refine wp_region_T 99 (fun w' => (w'.cell? ⟨gy, 0, none⟩ = some (.int .i64 x.kind) ∧ w'.cell? ⟨gy, 1, none⟩ = some (.int .i64 x.time) ∧ w'.cell? ⟨gy, 2, none⟩ = some (.slice x.A x.labs.length x.cp) ∧ w'.cell? ⟨gy, 3, none⟩ = some (.string x.text) ∧ w'.cell? ⟨gy, 4, none⟩ = some (.int .i64 x.value) ∧ w'.cell? ⟨gy, 5, none⟩ = some (.bool x.null) ∧ w'.cell? ⟨gy, 6, none⟩ = some (.int .i64 x.maker) ∧ w'.cell? ⟨gy, 7, none⟩ = some (.int .i64 x.seq) ∧ w'.cell? ⟨gy, 8, none⟩ = some (.int .i64 x.place)) ∧ w'.cell? ⟨gx, 0, none⟩ = some (.int .i64 gw) ∧ w'.cell? ⟨gx, 1, none⟩ = some (.string gp) ∧ w'.cell? ⟨gx, 2, none⟩ = some (.slice (some ⟨rb, ro, none⟩) gl.length gc)) (by kernel_rfl) (HKa.out _ HW0.out) (fun hHeld => ?_)
              generalize wc.drew = u0 at *
              refine wpAnyT_take (i := 0) (oi := _) (v := ?_) rfl (by kernel_rfl) (fun _ _ _ h => h) (Or.inl ⟨by kernel_rfl, ?_⟩) (by assumption) ?_; rotate_left; (focus (intro w hSw; (try dsimp only at hSw); go_simp; (try with_reducible rfl))); (try simp only [Act.put, List.getElem_toArray, List.getElem_cons_zero, List.setIfInBounds_toArray, List.set_cons_zero, List.set_cons_succ])
              refine wpAnyT_take (i := 1) (oi := _) (v := ?_) rfl (by kernel_rfl) (fun _ _ _ h => h) (Or.inl ⟨by kernel_rfl, ?_⟩) (by assumption) ?_; rotate_left; (focus (intro w hSw; (try dsimp only at hSw); go_simp; (try with_reducible rfl))); (try simp only [Act.put, List.getElem_toArray, List.getElem_cons_zero, List.getElem_cons_succ, List.setIfInBounds_toArray, List.set_cons_zero, List.set_cons_succ])
              refine wpAnyT_take (i := 2) (oi := _) (v := ?_) rfl (by kernel_rfl) (fun _ _ _ h => h) (Or.inl ⟨by kernel_rfl, ?_⟩) (by assumption) ?_; rotate_left; (focus (intro w hSw; (try dsimp only at hSw); go_simp; (try with_reducible rfl))); (try simp only [Act.put, List.getElem_toArray, List.getElem_cons_zero, List.getElem_cons_succ, List.setIfInBounds_toArray, List.set_cons_zero, List.set_cons_succ])
              refine wpAnyT_take (i := 3) (oi := _) (v := ?_) rfl (by kernel_rfl) (fun _ _ _ h => h) (Or.inl ⟨by kernel_rfl, ?_⟩) (by assumption) ?_; rotate_left; (focus (intro w hSw; (try dsimp only at hSw); go_simp; (try with_reducible rfl))); (try simp only [Act.put, List.getElem_toArray, List.getElem_cons_zero, List.getElem_cons_succ, List.setIfInBounds_toArray, List.set_cons_zero, List.set_cons_succ])
              refine wpAnyT_take (i := 4) (oi := _) (v := ?_) rfl (by kernel_rfl) (fun _ _ _ h => h) (Or.inl ⟨by kernel_rfl, ?_⟩) (by assumption) ?_; rotate_left; (focus (intro w hSw; (try dsimp only at hSw); go_simp; (try with_reducible rfl))); (try simp only [Act.put, List.getElem_toArray, List.getElem_cons_zero, List.getElem_cons_succ, List.setIfInBounds_toArray, List.set_cons_zero, List.set_cons_succ])
              refine wpAnyT_take (i := 5) (oi := _) (v := ?_) rfl (by kernel_rfl) (fun _ _ _ h => h) (Or.inl ⟨by kernel_rfl, ?_⟩) (by assumption) ?_; rotate_left; (focus (intro w hSw; (try dsimp only at hSw); go_simp; (try with_reducible rfl))); (try simp only [Act.put, List.getElem_toArray, List.getElem_cons_zero, List.getElem_cons_succ, List.setIfInBounds_toArray, List.set_cons_zero, List.set_cons_succ])
              refine wpAnyT_take (i := 6) (oi := _) (v := ?_) rfl (by kernel_rfl) (fun _ _ _ h => h) (Or.inl ⟨by kernel_rfl, ?_⟩) (by assumption) ?_; rotate_left; (focus (intro w hSw; (try dsimp only at hSw); go_simp; (try with_reducible rfl))); (try simp only [Act.put, List.getElem_toArray, List.getElem_cons_zero, List.getElem_cons_succ, List.setIfInBounds_toArray, List.set_cons_zero, List.set_cons_succ])
              refine wpAnyT_take (i := 7) (oi := _) (v := ?_) rfl (by kernel_rfl) (fun _ _ _ h => h) (Or.inl ⟨by kernel_rfl, ?_⟩) (by assumption) ?_; rotate_left; (focus (intro w hSw; (try dsimp only at hSw); go_simp; (try with_reducible rfl))); (try simp only [Act.put, List.getElem_toArray, List.getElem_cons_zero, List.getElem_cons_succ, List.setIfInBounds_toArray, List.set_cons_zero, List.set_cons_succ])
              refine wpAnyT_take (i := 8) (oi := _) (v := ?_) rfl (by kernel_rfl) (fun _ _ _ h => h) (Or.inl ⟨by kernel_rfl, ?_⟩) (by assumption) ?_; rotate_left; (focus (intro w hSw; (try dsimp only at hSw); go_simp; (try with_reducible rfl))); (try simp only [Act.put, List.getElem_toArray, List.getElem_cons_zero, List.getElem_cons_succ, List.setIfInBounds_toArray, List.set_cons_zero, List.set_cons_succ])
              refine wpAnyT_take (i := 9) (oi := _) (v := ?_) rfl (by kernel_rfl) (fun _ _ _ h => h) (Or.inl ⟨by kernel_rfl, ?_⟩) (by assumption) ?_; rotate_left; (focus (intro w hSw; (try dsimp only at hSw); go_simp; (try with_reducible rfl))); (try simp only [Act.put, List.getElem_toArray, List.getElem_cons_zero, List.getElem_cons_succ, List.setIfInBounds_toArray, List.set_cons_zero, List.set_cons_succ])
              refine wpAnyT_take (i := 10) (oi := _) (v := ?_) rfl (by kernel_rfl) (fun _ _ _ h => h) (Or.inl ⟨by kernel_rfl, ?_⟩) (by assumption) ?_; rotate_left; (focus (intro w hSw; (try dsimp only at hSw); go_simp; (try with_reducible rfl))); (try simp only [Act.put, List.getElem_toArray, List.getElem_cons_zero, List.getElem_cons_succ, List.setIfInBounds_toArray, List.set_cons_zero, List.set_cons_succ])
              refine wpAnyT_take (i := 11) (oi := _) (v := ?_) rfl (by kernel_rfl) (fun _ _ _ h => h) (Or.inl ⟨by kernel_rfl, ?_⟩) (by assumption) ?_; rotate_left; (focus (intro w hSw; (try dsimp only at hSw); go_simp; (try with_reducible rfl))); (try simp only [Act.put, List.getElem_toArray, List.getElem_cons_zero, List.getElem_cons_succ, List.setIfInBounds_toArray, List.set_cons_zero, List.set_cons_succ])
              refine wpAnyT_take (i := 12) (oi := _) (v := ?_) rfl (by kernel_rfl) (fun _ _ _ h => h) (Or.inl ⟨by kernel_rfl, ?_⟩) (by assumption) ?_; rotate_left; (focus (intro w hSw; (try dsimp only at hSw); go_simp; (try with_reducible rfl))); (try simp only [Act.put, List.getElem_toArray, List.getElem_cons_zero, List.getElem_cons_succ, List.setIfInBounds_toArray, List.set_cons_zero, List.set_cons_succ])
              refine wpAnyT_take (i := 15) (oi := _) (v := ?_) rfl (by kernel_rfl) (fun _ _ _ h => h) (Or.inl ⟨by kernel_rfl, ?_⟩) (by assumption) ?_; rotate_left; (focus (intro w hSw; (try dsimp only at hSw); go_simp; (try with_reducible rfl))); (try simp only [Act.put, List.getElem_toArray, List.getElem_cons_zero, List.getElem_cons_succ, List.setIfInBounds_toArray, List.set_cons_zero, List.set_cons_succ])
              refine wpAnyT_take (i := 16) (oi := _) (v := ?_) rfl (by kernel_rfl) (fun _ _ _ h => h) (Or.inl ⟨by kernel_rfl, ?_⟩) (by assumption) ?_; rotate_left; (focus (intro w hSw; (try dsimp only at hSw); go_simp; (try with_reducible rfl))); (try simp only [Act.put, List.getElem_toArray, List.getElem_cons_zero, List.getElem_cons_succ, List.setIfInBounds_toArray, List.set_cons_zero, List.set_cons_succ])
              refine wpAnyT_one (i := 13) (by kernel_rfl) rfl (fun K hK => ?_); go_simp
              refine (HPt.out u0 HW0.out).mono ?_
              rintro en u1 ⟨A9, c9, rfl, hlb, -, hb9⟩
              have HB1 := Lib.hid (HW0.out.trans (hb9.mono HW0.out.size))
              have hS1 := HKa.out _ HB1.out
              refine hK.out _ _ (fun _ => hS1) ?_
              clear hK K hHeld hb9
              (try simp only [Act.put, List.getElem_toArray, List.getElem_cons_zero, List.getElem_cons_succ, List.setIfInBounds_toArray, List.set_cons_zero, List.set_cons_succ])
              refine wpAnyT_one (i := 14) (by kernel_rfl) rfl (fun K hK => ?_); go_simp
              refine (HTx.out u1 _ _ hlb).mono ?_
              rintro en u2 ⟨rfl, hb9⟩
              have HB2x := Lib.hid (HB1.out.trans (hb9.mono HB1.out.size))
              have hS2 := HKa.out _ HB2x.out
              refine hK.out _ _ (fun _ => hS2) ?_
              clear hK K hS1 hb9 hlb HB1
              (try simp only [Act.put, List.getElem_toArray, List.getElem_cons_zero, List.getElem_cons_succ, List.setIfInBounds_toArray, List.set_cons_zero, List.set_cons_succ])
              refine wpAnyT_take (i := 17) (oi := _) (v := ?_) rfl (by kernel_rfl) (fun _ _ _ h => h) (Or.inl ⟨by kernel_rfl, ?_⟩) (by assumption) ?_; rotate_left; (focus (intro w hSw; (try dsimp only at hSw); go_simp; (try with_reducible rfl))); (try simp only [Act.put, List.getElem_toArray, List.getElem_cons_zero, List.getElem_cons_succ, List.setIfInBounds_toArray, List.set_cons_zero, List.set_cons_succ])
              refine wpAnyT_take (i := 18) (oi := _) (v := ?_) rfl (by kernel_rfl) (fun _ _ _ h => h) (Or.inl ⟨by kernel_rfl, ?_⟩) (by assumption) ?_; rotate_left; (focus (intro w hSw; (try dsimp only at hSw); go_simp; (try with_reducible rfl))); (try simp only [Act.put, List.getElem_toArray, List.getElem_cons_zero, List.getElem_cons_succ, List.setIfInBounds_toArray, List.set_cons_zero, List.set_cons_succ])
              refine wpAnyT_take (i := 19) (oi := _) (v := ?_) rfl (by kernel_rfl) (fun _ _ _ h => h) (Or.inl ⟨by kernel_rfl, ?_⟩) (by assumption) ?_; rotate_left; (focus (intro w hSw; (try dsimp only at hSw); go_simp; (try with_reducible rfl))); (try simp only [Act.put, List.getElem_toArray, List.getElem_cons_zero, List.getElem_cons_succ, List.setIfInBounds_toArray, List.set_cons_zero, List.set_cons_succ])
              refine wpAnyT_take (i := 20) (oi := _) (v := ?_) rfl (by kernel_rfl) (fun _ _ _ h => h) (Or.inl ⟨by kernel_rfl, ?_⟩) (by assumption) ?_; rotate_left; (focus (intro w hSw; (try dsimp only at hSw); go_simp; (try with_reducible rfl))); (try simp only [Act.put, List.getElem_toArray, List.getElem_cons_zero, List.getElem_cons_succ, List.setIfInBounds_toArray, List.set_cons_zero, List.set_cons_succ])
              refine wpAnyT_take (i := 21) (oi := _) (v := ?_) rfl (by kernel_rfl) (fun _ _ _ h => h) (Or.inl ⟨by kernel_rfl, ?_⟩) (by assumption) ?_; rotate_left; (focus (intro w hSw; (try dsimp only at hSw); go_simp; (try with_reducible rfl))); (try simp only [Act.put, List.getElem_toArray, List.getElem_cons_zero, List.getElem_cons_succ, List.setIfInBounds_toArray, List.set_cons_zero, List.set_cons_succ])
              refine wpAnyT_take (i := 22) (oi := _) (v := ?_) rfl (by kernel_rfl) (fun _ _ _ h => h) (Or.inl ⟨by kernel_rfl, ?_⟩) (by assumption) ?_; rotate_left; (focus (intro w hSw; (try dsimp only at hSw); go_simp; (try with_reducible rfl))); (try simp only [Act.put, List.getElem_toArray, List.getElem_cons_zero, List.getElem_cons_succ, List.setIfInBounds_toArray, List.set_cons_zero, List.set_cons_succ])
              refine wpAnyT_take (i := 23) (oi := _) (v := undef) rfl (by kernel_rfl) (fun _ _ _ h => h) (Or.inr ⟨by kernel_rfl, rfl⟩) (by assumption) ?_; (try simp only [Act.put, List.getElem_toArray, List.getElem_cons_zero, List.getElem_cons_succ, List.setIfInBounds_toArray, List.set_cons_zero, List.set_cons_succ])
              refine wpAnyT_take (i := 24) (oi := _) (v := undef) rfl (by kernel_rfl) (fun _ _ _ h => h) (Or.inr ⟨by kernel_rfl, rfl⟩) (by assumption) ?_; (try simp only [Act.put, List.getElem_toArray, List.getElem_cons_zero, List.getElem_cons_succ, List.setIfInBounds_toArray, List.set_cons_zero, List.set_cons_succ])
              refine wpAnyT_take (i := 25) (oi := _) (v := undef) rfl (by kernel_rfl) (fun _ _ _ h => h) (Or.inr ⟨by kernel_rfl, rfl⟩) (by assumption) ?_; (try simp only [Act.put, List.getElem_toArray, List.getElem_cons_zero, List.getElem_cons_succ, List.setIfInBounds_toArray, List.set_cons_zero, List.set_cons_succ])
              refine wpAnyT_take (i := 26) (oi := _) (v := undef) rfl (by kernel_rfl) (fun _ _ _ h => h) (Or.inr ⟨by kernel_rfl, rfl⟩) (by assumption) ?_; (try simp only [Act.put, List.getElem_toArray, List.getElem_cons_zero, List.getElem_cons_succ, List.setIfInBounds_toArray, List.set_cons_zero, List.set_cons_succ])
              refine wpAnyT_take (i := 27) (oi := _) (v := undef) rfl (by kernel_rfl) (fun _ _ _ h => h) (Or.inr ⟨by kernel_rfl, rfl⟩) (by assumption) ?_; (try simp only [Act.put, List.getElem_toArray, List.getElem_cons_zero, List.getElem_cons_succ, List.setIfInBounds_toArray, List.set_cons_zero, List.set_cons_succ])
              refine wpAnyT_take (i := 28) (oi := _) (v := undef) rfl (by kernel_rfl) (fun _ _ _ h => h) (Or.inr ⟨by kernel_rfl, rfl⟩) (by assumption) ?_; (try simp only [Act.put, List.getElem_toArray, List.getElem_cons_zero, List.getElem_cons_succ, List.setIfInBounds_toArray, List.set_cons_zero, List.set_cons_succ])
              refine wpAnyT_take (i := 29) (oi := _) (v := undef) rfl (by kernel_rfl) (fun _ _ _ h => h) (Or.inr ⟨by kernel_rfl, rfl⟩) (by assumption) ?_; (try simp only [Act.put, List.getElem_toArray, List.getElem_cons_zero, List.getElem_cons_succ, List.setIfInBounds_toArray, List.set_cons_zero, List.set_cons_succ])
              refine wpAnyT_take (i := 30) (oi := _) (v := undef) rfl (by kernel_rfl) (fun _ _ _ h => h) (Or.inr ⟨by kernel_rfl, rfl⟩) (by assumption) ?_; (try simp only [Act.put, List.getElem_toArray, List.getElem_cons_zero, List.getElem_cons_succ, List.setIfInBounds_toArray, List.set_cons_zero, List.set_cons_succ])
              refine wpAnyT_take (i := 31) (oi := _) (v := undef) rfl (by kernel_rfl) (fun _ _ _ h => h) (Or.inr ⟨by kernel_rfl, rfl⟩) (by assumption) ?_; (try simp only [Act.put, List.getElem_toArray, List.getElem_cons_zero, List.getElem_cons_succ, List.setIfInBounds_toArray, List.set_cons_zero, List.set_cons_succ])
              refine wpAnyT_take (i := 32) (oi := _) (v := ?_) rfl (by kernel_rfl) (fun _ _ _ h => h) (Or.inl ⟨by kernel_rfl, ?_⟩) (by assumption) ?_; rotate_left; (focus (intro w hSw; (try dsimp only at hSw); go_simp; (try with_reducible rfl))); (try simp only [Act.put, List.getElem_toArray, List.getElem_cons_zero, List.getElem_cons_succ, List.setIfInBounds_toArray, List.set_cons_zero, List.set_cons_succ])
              refine wpAnyT_take (i := 33) (oi := _) (v := ?_) rfl (by kernel_rfl) (fun _ _ _ h => h) (Or.inl ⟨by kernel_rfl, ?_⟩) (by assumption) ?_; rotate_left; (focus (intro w hSw; (try dsimp only at hSw); go_simp; (try with_reducible rfl))); (try simp only [Act.put, List.getElem_toArray, List.getElem_cons_zero, List.getElem_cons_succ, List.setIfInBounds_toArray, List.set_cons_zero, List.set_cons_succ])
              refine wpAnyT_done (by kernel_rfl) ?_ _
              have HBn : Hid (Below wa.heap.size wa u2) := Lib.hid (HBjc.out.trans (HB2x.out.mono HBjc.out.size))
              go_wp2
              go_roundw
              case rel => exact ⟨k + 1, by omega, by go_num, HBn⟩
              case measure => simp [intOf]; omega
          · obtain rfl : k = gl.length := by omega
            obtain ⟨x0, x1, x2⟩ := HBX.out wr HBj.out
            have HOw := Lib.hid (own_below HOa.out ((HBa.out.trans (HBj.out.mono HBa.out.size))))
            have HRw := Lib.hid hrr.reads
            have hs3 := H3w.out.size
            have hLa := HLa.out.2
            have HLx := Lib.hid HLa.out.1
            clear hrr HOa HLa
            go_wp2_with (at_builtin; go_must (refine wpList_append_sl _ rfl (.tmp 130) (.tmp 132) _ rfl w3.heap.size 37 _ 9 96 Try.underlying33 Try.infoRow rfl (by omega) _ _ _ rfl HOw.out w3.heap.size gA gl.length gc (Sr.flat Rw.c gl) rfl HRw.out (rflat_one _) (by unfold maxLen; omega) (by omega) (by omega) ?_))
            intro A6 c6 w6 hc61 hc62 hrd6 hbel6 hown6 _ _
            have HO6 : Hid (w6.ownsRow w3.heap.size 37 9 (.slice A6 (n + gl.length) c6) (n + gl.length) (Sr.flat Rw.c ((g1.take (i + 1)).flatMap Gp.rows))) := Lib.hid (by
              rw [HTk.out, ← flat_app]
              exact hown6)
            have HL6 : Hid (((g1.take (i + 1)).flatMap Gp.rows).length = n + gl.length ∧ n + gl.length ≤ 60 * (i + 1)) := Lib.hid ⟨by rw [HTk.out, List.length_append, HLx.out], by omega⟩
            have HB6 : Hid (Below w3.heap.size w3 w6) := Lib.hid (H3w.out.trans hbel6)
            clear hown6 hbel6 hrd6
            go_wp2
            go_roundw
            case rel => exact ⟨i + 1, n + gl.length, A6, c6, by omega, by go_num, rfl, HO6, HL6, HB6⟩
            case measure => simp [intOf]; omega
    · obtain rfl : i = g1.length := by omega
      have HGf := Lib.hid (gath_flat HK.out)
      have hall : (g1.take g1.length).flatMap Gp.rows = g1.flatMap Gp.rows := by rw [List.take_length]
      rw [hall] at HOa HLa
      obtain ⟨hn9, -⟩ := HLa.out
      subst hn9
      have hln : (g1.flatMap Gp.rows).length = l.length := by
        rw [HGf.out.length_eq, HSM.out.len, isort_len]
      have HMa : Hid (∀ x ∈ g1.flatMap Gp.rows, x ∈ d3) := Lib.hid fun x hx => HGf.out.mem_iff.1 hx
      have HRa : Hid (Rows wo wo.heap.size Aa (g1.flatMap Gp.rows)) := Lib.hid ⟨Reads.of_own HOa.out, fun x hx => ((HOk.out x (HMa.out x hx)).below HBr.out).more HBr.out.size⟩
      have HNt := Lib.hid fun hno => sorts_same (l := l) hno HGf.out HSM.out
      generalize g1.flatMap Gp.rows = all at *
      have H0r : Hid (Below w.heap.size w wo) := Lib.hid (HB03.out.trans (HBr.out.mono HB03.out.size))
      have HS1 := Lib.hid (sort_calls wo (c := ca) HRa.out (Nat.le_refl _) (by omega))
      have HLn := Lib.hid hln
      clear HGf HMa hall HOa hln
      go_wp2_with fail
      refine HS1.out.mono ?_
      rintro e w7 ⟨A7, c7, s1, rfl, hl7, hs7, ho7, hb7⟩
      have HB7 : Hid (Below w.heap.size w w7) := Lib.hid (H0r.out.trans (hb7.mono H0r.out.size))
      have HR7 : Hid (Rows w7 w7.heap.size A7 s1) := Lib.hid (by
        have := ho7
        rw [← hl7] at this
        exact this.rows (SameL.fits (Eq.symm hs7) fun x hx => HRa.out.fits x ((isort_perm all).mem_iff.1 hx)))
      have HS2 := Lib.hid (sort_calls w7 (c := c) (HR.out.below (HB7.out.mono hB)) (by have := HB7.out.size; omega) (by omega))
      have HL7 := Lib.hid hl7
      have HM7 := Lib.hid hs7
      clear HS1 hl7 hs7 ho7 hb7
      go_wp2_with fail
      refine HS2.out.mono ?_
      rintro e w8 ⟨A8, c8, s2, rfl, hl8, hs8, ho8, hb8⟩
      have HB8 : Hid (Below w.heap.size w w8) := Lib.hid (HB7.out.trans (hb8.mono HB7.out.size))
      have HR8 : Hid (Rows w8 w8.heap.size A8 s2) := Lib.hid (by
        have := ho8
        rw [← hl8] at this
        exact this.rows (SameL.fits (Eq.symm hs8) fun x hx => HR.out.fits x ((isort_perm l).mem_iff.1 hx)))
      have HR78 : Hid (Rows w8 w8.heap.size A7 s1) := Lib.hid ((HR7.out.below hb8).more hb8.size)
      have HL8 := Lib.hid hl8
      have HM8 := Lib.hid hs8
      clear HS2 hl8 hs8 ho8 hb8
      by_cases hno : ∃ i j, j < i ∧ i < l.length ∧ cfR (Sr.gt l i) (Sr.gt l j) = 0
      · have HSn : Hid (Calls Try.prog 16 #[.slice A7 all.length c7, .slice A8 l.length c8] w8 fun e w' => (∃ b, e = .returned (.bool b)) ∧ Below w8.heap.size w8 w') := Lib.hid (by
          have := sameRowsN_calls w8 (c1 := c7) (c2 := c8) HR78.out HR8.out (Nat.le_refl _) (Nat.le_refl _) (by rw [HL7.out, HL8.out, HLn.out]) (by have := HLn.out; rw [HL7.out]; omega)
          rw [HL7.out, HL8.out] at this
          exact this)
        go_wp2_with fail
        refine HSn.out.mono ?_
        rintro e w9 ⟨⟨b, rfl⟩, hb9⟩
        have HB9 : Hid (Below w.heap.size w w9) := Lib.hid (HB8.out.trans (hb9.mono HB8.out.size))
        clear hb9 HSn
        cases b
        · have dl : ((all.length : Int) == (l.length : Int)) = true := eqt (by have := HLn.out; omega)
          have HTw := Lib.hid (twins_calls w9 (c := c) (HR.out.below (HB9.out.mono hB)) (by have := HB9.out.size; omega) (by omega) hno)
          go_wp2_with fail
          refine HTw.out.mono ?_
          rintro e w10 ⟨rfl, hb10⟩
          have HB10 : Hid (Below w.heap.size w w10) := Lib.hid (HB9.out.trans (hb10.mono HB9.out.size))
          clear hb10
          go_wp2
          go_ret
          exact ⟨rfl, HB10.out⟩
        · go_wp2
          go_ret
          exact ⟨rfl, HB9.out⟩
      · have HSm : Hid (SameL s1 s2) := Lib.hid (Eq.trans HM7.out (Eq.trans (HNt.out hno) (Eq.symm HM8.out)))
        have HSn : Hid (Calls Try.prog 16 #[.slice A7 all.length c7, .slice A8 l.length c8] w8 fun e w' => e = .returned (.bool true) ∧ Below w8.heap.size w8 w') := Lib.hid (by
          have := sameRowsL_calls w8 (c1 := c7) (c2 := c8) HR78.out HR8.out (Nat.le_refl _) (Nat.le_refl _) HSm.out (by have := HLn.out; rw [HL7.out]; omega)
          rw [HL7.out, HL8.out] at this
          exact this)
        go_wp2_with fail
        refine HSn.out.mono ?_
        rintro e w9 ⟨rfl, hb9⟩
        have HB9 : Hid (Below w.heap.size w w9) := Lib.hid (HB8.out.trans (hb9.mono HB8.out.size))
        clear hb9 HSn
        go_wp2
        go_ret
        exact ⟨rfl, HB9.out⟩


set_option maxRecDepth 100000 in
set_option maxHeartbeats 1600000 in
theorem long (w : World) {c n c2 n2 : Nat} {A A2 : Option Addr} {win : Int} (h : 60 < n) :
    Calls Try.prog 8 #[.slice A n c, .int .i64 win, .slice A2 n2 c2] w fun e w' => e = .returned (.bool true) ∧ Below w.heap.size w w' := by
  have d60 : decide ((60 : Int) < (n : Int)) = true := dct (by omega)
  go_enter Try.func8, Try.ntmps8
  go_wp2_with fail
  refine (lives_calls w).mono ?_
  rintro e w1 ⟨rfl, hb1⟩
  go_wp2_with fail
  refine (lives_calls w1).mono ?_
  rintro e w2 ⟨rfl, hb2⟩
  go_wp2
  go_ret
  exact ⟨rfl, hb1.trans (hb2.mono hb1.size)⟩
set_option maxRecDepth 100000 in
set_option maxHeartbeats 1600000 in
theorem long2 (w : World) {c n c2 n2 : Nat} {A A2 : Option Addr} {win : Int} (h : ¬ 60 < n) (h2 : 20 < n2) :
    Calls Try.prog 8 #[.slice A n c, .int .i64 win, .slice A2 n2 c2] w fun e w' => e = .returned (.bool true) ∧ Below w.heap.size w w' := by
  have d60 : decide ((60 : Int) < (n : Int)) = false := dcf (by omega)
  have d20 : decide ((20 : Int) < (n2 : Int)) = true := dct (by omega)
  go_enter Try.func8, Try.ntmps8
  go_wp2_with fail
  refine (lives_calls w).mono ?_
  rintro e w1 ⟨rfl, hb1⟩
  go_wp2_with fail
  refine (lives_calls w1).mono ?_
  rintro e w2 ⟨rfl, hb2⟩
  go_wp2
  go_ret
  exact ⟨rfl, hb1.trans (hb2.mono hb1.size)⟩
set_option maxRecDepth 100000 in
set_option maxHeartbeats 1600000 in
theorem noWindow (w : World) {c n c2 n2 : Nat} {A A2 : Option Addr} {win : Int} (h : ¬ 60 < n) (h2 : ¬ 20 < n2) (hw : win < 1) :
    Calls Try.prog 8 #[.slice A n c, .int .i64 win, .slice A2 n2 c2] w fun e w' => e = .returned (.bool true) ∧ Below w.heap.size w w' := by
  have d60 : decide ((60 : Int) < (n : Int)) = false := dcf (by omega)
  have d20 : decide ((20 : Int) < (n2 : Int)) = false := dcf (by omega)
  have dw : decide (win < 1) = true := dct hw
  go_enter Try.func8, Try.ntmps8
  go_wp2_with fail
  refine (lives_calls w).mono ?_
  rintro e w1 ⟨rfl, hb1⟩
  go_wp2_with fail
  refine (lives_calls w1).mono ?_
  rintro e w2 ⟨rfl, hb2⟩
  go_wp2
  go_ret
  exact ⟨rfl, hb1.trans (hb2.mono hb1.size)⟩
set_option maxRecDepth 100000 in
set_option maxHeartbeats 1600000 in
theorem notRight (w : World) {B c c2 n2 : Nat} {A A2 : Option Addr} {l : List Rw} {win : Int} (h : Rows w B A l) (hB : B ≤ w.heap.size) (hn : ¬ 60 < l.length) (h2 : ¬ 20 < n2) (hw : ¬ win < 1) (hri : rightL l = false) :
    Calls Try.prog 8 #[.slice A l.length c, .int .i64 win, .slice A2 n2 c2] w fun e w' => e = .returned (.bool true) ∧ Below w.heap.size w w' := by
  have d60 : decide ((60 : Int) < (l.length : Int)) = false := dcf (by omega)
  have d20 : decide ((20 : Int) < (n2 : Int)) = false := dcf (by omega)
  have dw : decide (win < 1) = false := dcf hw
  have HR := Lib.hid h
  clear h
  go_enter Try.func8, Try.ntmps8
  go_wp2_with fail
  refine (lives_calls w).mono ?_
  rintro e w1 ⟨rfl, hb1⟩
  have HRL := Lib.hid (rightL_calls w1 (c := c) (HR.out.below (hb1.mono hB)) (by have := hb1.size; omega) (by omega))
  rw [hri] at HRL
  go_wp2_with fail
  refine HRL.out.mono ?_
  rintro e w2 ⟨rfl, hb2⟩
  have hb02 := hb1.trans (hb2.mono hb1.size)
  go_wp2_with fail
  refine (lives_calls w2).mono ?_
  rintro e w3 ⟨rfl, hb3⟩
  go_wp2
  go_ret
  exact ⟨rfl, hb02.trans (hb3.mono hb02.size)⟩

theorem walk {H : Type} {enc : TypeId × Value → H} {W : World} {base : Nat} {v0 v1 v2 : Value} {d0 d1 d2 : DataW H} {p0 p1 p2 : List MemPlace} (g0 : Arg enc Try.prog W base 33 v0 d0 p0) (g1 : Arg enc Try.prog W base 3 v1 d1 p1) (g2 : Arg enc Try.prog W base 46 v2 d2 p2) :
    Calls Try.prog 8 #[v0, v1, v2] W fun e w' => e = .returned (.bool true) ∧ Below W.heap.size W w' := by
  obtain ⟨A, c, l, rfl, _, _, hR⟩ := arg_rows g0
  obtain ⟨win, rfl, -, hn⟩ := g1.int Try.underlying3
  obtain ⟨Ab, cb, by_, rfl, _, _, hS⟩ := arg_strs g2
  have hwf := wf_i64 hn
  by_cases h60 : 60 < l.length
  · exact long W h60
  by_cases h20 : 20 < by_.length
  · exact long2 W h60 h20
  by_cases hw : win < 1
  · exact noWindow W h60 h20 hw
  cases hr : rightL l
  · exact notRight W hR (Nat.le_refl _) h60 h20 hw hr
  · exact body W hR (Nat.le_refl _) (by omega) hS (Nat.le_refl _) (by omega) (by omega) (by omega) hr
end Go.Proofs.Ytennddlihcamnaa.lawRecordGathers
