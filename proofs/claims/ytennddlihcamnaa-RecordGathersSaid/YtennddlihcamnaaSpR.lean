/- Split of the document (chapter 9), walked. -/
import Derived.Test.YtennddlihcamnaaProg
import Derived.Test.YtennddlihcamnaaSpB
import Derived.Test.YtennddlihcamnaaSpC
import Derived.Test.YtennddlihcamnaaLabQo
import Derived.Test.YtennddlihcamnaaRwH
import Derived.Deep.CutBlock
namespace Go.Proofs.Ytennddlihcamnaa.Sp
set_option linter.unusedVariables false
set_option linter.unusedSimpArgs false
open Go.RowKit Go.Proofs.Ytennddlihcamnaa Go.Proofs.Ytennddlihcamnaa.So

theorem Try.infoGrR : (Try.prog.info? 53).map (fun i => (i.zero, i.size, i.bytes)) = some (some (.agg #[.int .i64 0, .string ⟨#[]⟩, .slice none 0 0]), 3, 48) := by kernel_rfl
set_option maxRecDepth 100000 in
theorem sliceG_at (w : World) (A : Option Addr) (n c k : Nat) (h : k ≤ n) (_hc : n ≤ c) :
    (Instr.slice 49 (.slice A n c) (some (.int .i64 (k : Int))) none none).run Try.prog w = .ok (.slice (cutR A c k 3) (n - k) (c - k)) w := by
  unfold cutR
  have e : ((k : Int)).toNat = k := by omega
  obtain ⟨i, hi, _, hs, _⟩ := info_parts Try.infoGrR
  have hE : Try.prog.elem 49 = 53 := by kernel_rfl
  rw [run_slice_l w _ A n c Try.underlying49 .i64 _ (by omega) (by omega)]
  rw [hE]
  simp [sliced, Result.andThen, e, sizeOf, typeInfo, hi, hs]

theorem textR_P (w : World) {B c : Nat} {A : Option Addr} {l : List Lab} (h : Labs w B A l) (hB : B ≤ w.heap.size) (hn : l.length ≤ 140737488355328) (hr : rightB l = true) :
    Calls Try.prog 27 #[.slice A l.length c] w fun e w' => e = .returned (.string (textP l)) ∧ Below w.heap.size w w' := by
  unfold textP
  rw [hr, if_pos rfl]
  exact textR_calls w h hB hn hr
/-- What the document's Split hands back. -/
def RetSplitR (w : World) (l : List Rw) (key : Rw → Int × ByteArray) (e : Ending) (w' : World) : Prop :=
  ∃ A c gs, e = .returned (.slice A gs.length c) ∧ Gr (Sr.nine Rw.c) w' w.heap.size 9 53 37 A c gs ∧ gs.map prG = foldR key ltK (isort (Sr.ltc cfR) l) ∧ Below w.heap.size w w'

set_option maxRecDepth 100000 in
set_option maxHeartbeats 6400000 in
theorem splitR_calls (w : World) {B B2 c c2 : Nat} {A A2 : Option Addr} {l : List Rw} {by_ : List ByteArray} {win : Int} (h : Rows w B A l) (hB : B ≤ w.heap.size) (hn : l.length ≤ 200) (h2 : Strs w B2 A2 by_) (hB2 : B2 ≤ w.heap.size) (hn2 : by_.length ≤ 140737488355328) (hw : 1 ≤ win) (hw9 : win ≤ 9223372036854775807) (hri : ∀ x ∈ l, rightB x.labs = true) :
    Calls Try.prog 26 #[.slice A l.length c, .int .i64 win, .slice A2 by_.length c2] w (RetSplitR w l (keyR win by_)) := by
  have HSO := Lib.hid (refSort_calls (w.alloc (.cells #[] 53)) (c := c) (h.reads.below ((Below.refl B w).alloc hB _)) (by simp; omega) hn)
  have HR := Lib.hid h
  have HFit := Lib.hid h.fits
  have HST := Lib.hid h2
  have HRi := Lib.hid hri
  have hw0 : win ≠ 0 := by omega
  clear h h2 hri
  go_enter Try.func26, Try.ntmps26
  go_wp2_with fail
  refine HSO.out.mono ?_
  rintro e w1 ⟨A1, c1, rfl, hso, hb1⟩
  have es : (w.alloc (.cells #[] 53)).heap.size = w.heap.size + 1 := by simp
  rw [es] at hso hb1
  have hmb : w.heap.size < w1.heap.size := by have := hb1.size; omega
  have HB1 : Hid (Below w.heap.size w w1) := Lib.hid (((Below.refl _ _).alloc (Nat.le_refl _) _).trans (hb1.mono (by omega)))
  have hln := isort_len (lt := Sr.ltc cfR) l
  have HMem : Hid (∀ x ∈ isort (Sr.ltc cfR) l, x ∈ l) := Lib.hid fun x hx => (isort_perm l).mem_iff.1 hx
  obtain ⟨d, hd⟩ : ∃ d, d = isort (Sr.ltc cfR) l := ⟨_, rfl⟩
  rw [← hd] at hln HMem hso
  have HD := Lib.hid hd
  have hdn : d.length ≤ 200 := by omega
  have HSo := Lib.hid (Reads.of_own hso)
  clear HSO hb1 es hso hd
  rw [← hln] at *
  go_wp2
  go_loopw [7, 18] (fun v i wr => ∃ (k : Nat) (gs : List (Gp Rw)) (Ag : Option Addr) (cg : Nat), k ≤ d.length ∧ i = .int .i64 (k : Int) ∧ v = .slice Ag gs.length cg ∧ Hid (Gr (Sr.nine Rw.c) wr w1.heap.size 9 53 37 Ag cg gs) ∧ Hid (gs.map prG = foldR (keyR win by_) ltK (d.take k)) ∧ Hid (Below w1.heap.size w1 wr)) (fun _ i _ => d.length - (intOf i).toNat)
  case atStart => exact ⟨0, [], _, 0, Nat.zero_le _, rfl, rfl, Lib.hid (Gr.nil _ rfl), Lib.hid rfl, Lib.hid (Below.refl _ _)⟩
  case round =>
    obtain ⟨k, gs, Ag, cg, hk, rfl, rfl, HG, HF, HO⟩ := hrel
    by_cases hlt : k < d.length
    · have hsz := HO.out.size
      have hrr := Reads.below HSo.out HO.out
      obtain ⟨g1, o1, e1, hg1, -⟩ := reads_nine hrr (by omega)
      have HP := Lib.hid (reads_nine_at hrr e1 hlt)
      have HBr : Hid (Below w.heap.size w wr) := Lib.hid (HB1.out.trans (HO.out.mono (by omega)))
      have hmem : Sr.gt d k ∈ l := HMem.out _ (by rw [← Sr.gt_eq hlt]; exact List.getElem_mem _)
      have k1 := (HR.out.each _ hmem).below (HBr.out.mono hB)
      have HRx := Lib.hid (HRi.out _ hmem)
      have hstep := foldR_take (key := keyR win by_) hlt
      have hfl := foldR_len HF.out
      rw [← HF.out] at hstep
      have HSp := Lib.hid hstep
      have HFl := Lib.hid hfl
      subst e1
      generalize Sr.gt d k = x at *
      have HK1 := Lib.hid k1
      obtain ⟨p0, p1, p2, p3, p4, p5, p6, p7, p8⟩ := HP.out
      clear HP hrr k1 hstep hfl hmem
      have i0 : (0 : Int) ≤ (k : Int) := by omega
      have i9 : (k : Int) < (d.length : Int) := by omega
      go_upto_region 5 with fail
      have hbk := Blk.new wr 37 #[.int .i64 x.kind, .int .i64 x.time, .slice x.A x.labs.length x.cp, .string x.text, .int .i64 x.value, .bool x.null, .int .i64 x.maker, .int .i64 x.seq, .int .i64 x.place]
      have hba := (Below.refl wr.heap.size wr).alloc (Nat.le_refl _) (.cells #[.int .i64 x.kind, .int .i64 x.time, .slice x.A x.labs.length x.cp, .string x.text, .int .i64 x.value, .bool x.null, .int .i64 x.maker, .int .i64 x.seq, .int .i64 x.place] 37)
      obtain ⟨gx, hgx⟩ : ∃ gx, gx = wr.heap.size := ⟨_, rfl⟩
      rw [← hgx] at hbk ⊢
      have HGX := Lib.hid hgx
      clear hgx
      generalize wr.alloc (.cells #[.int .i64 x.kind, .int .i64 x.time, .slice x.A x.labs.length x.cp, .string x.text, .int .i64 x.value, .bool x.null, .int .i64 x.maker, .int .i64 x.seq, .int .i64 x.place] 37) = wa at *
      have HBk := Lib.hid hbk
      have HBa := Lib.hid hba
      have Hkeep : Hid (∀ W, Below wa.heap.size wa W → (W.cell? ⟨gx, 0, none⟩ = some (.int .i64 x.kind) ∧ W.cell? ⟨gx, 1, none⟩ = some (.int .i64 x.time) ∧ W.cell? ⟨gx, 2, none⟩ = some (.slice x.A x.labs.length x.cp) ∧ W.cell? ⟨gx, 3, none⟩ = some (.string x.text) ∧ W.cell? ⟨gx, 4, none⟩ = some (.int .i64 x.value) ∧ W.cell? ⟨gx, 5, none⟩ = some (.bool x.null) ∧ W.cell? ⟨gx, 6, none⟩ = some (.int .i64 x.maker) ∧ W.cell? ⟨gx, 7, none⟩ = some (.int .i64 x.seq) ∧ W.cell? ⟨gx, 8, none⟩ = some (.int .i64 x.place))) := Lib.hid fun W hW => blk_nineR (HBk.out.below hW HBk.out.lt)
      have HPt := Lib.hid fun W (hW : Below wa.heap.size wa W) => partR_calls W (c := x.cp) (c2 := c2) (HK1.out.labs.below ((HBa.out.trans (hW.mono HBa.out.size)).mono (by have := HBr.out.size; omega))) (by have := hW.size; have := HBa.out.size; have := HBr.out.size; omega) (HST.out.below ((HBr.out.trans (HBa.out.trans (hW.mono HBa.out.size) |>.mono HBr.out.size)).mono hB2)) (by have := hW.size; have := HBa.out.size; have := HBr.out.size; omega) HK1.out.len hn2
      have hpl := part_le x.labs by_
      have hkl := HK1.out.len
      have HTx := Lib.hid fun (W : World) (A3 : Option Addr) (c3 : Nat) (hL : Labs W W.heap.size A3 (partB x.labs by_)) => textR_P W (c := c3) hL (Nat.le_refl _) (by omega) (right_part HRx.out by_)
      have HKey : Hid (keyR win by_ x = (x.time.tdiv win, textP (partB x.labs by_))) := Lib.hid rfl
      have ht := tdiv_in HK1.out.time hw
      have hwr : IntKind.i64.wrap (x.time.tdiv win) = x.time.tdiv win := wrap_i64_tdiv _ _ HK1.out.time.1 HK1.out.time.2 hw
      clear hbk hba hpl hkl p0 p1 p2 p3 p4 p5 p6 p7 p8
      obtain ⟨p0, p1, p2, p3, p4, p5, p6, p7, p8⟩ := Hkeep.out wa (Below.refl _ _)
      go_region_held3 (fun w' => w'.cell? ⟨gx, 0, none⟩ = some (.int .i64 x.kind) ∧ w'.cell? ⟨gx, 1, none⟩ = some (.int .i64 x.time) ∧ w'.cell? ⟨gx, 2, none⟩ = some (.slice x.A x.labs.length x.cp) ∧ w'.cell? ⟨gx, 3, none⟩ = some (.string x.text) ∧ w'.cell? ⟨gx, 4, none⟩ = some (.int .i64 x.value) ∧ w'.cell? ⟨gx, 5, none⟩ = some (.bool x.null) ∧ w'.cell? ⟨gx, 6, none⟩ = some (.int .i64 x.maker) ∧ w'.cell? ⟨gx, 7, none⟩ = some (.int .i64 x.seq) ∧ w'.cell? ⟨gx, 8, none⟩ = some (.int .i64 x.place)) (exact Hkeep.out _ (by first | assumption | exact below_drewN_ (Below.refl _ _) 1)) (first | (go_at_call 28; refine (HPt.out _ (by first | assumption | exact below_drewN_ (Below.refl _ _) 1)).mono ?_; rintro e wb ⟨A3, c3, rfl, hlb, -, hbb⟩; have heb : Below wa.heap.size wa wb := (below_drewN_ (Below.refl _ _) 1).trans hbb) | (go_at_call 27; refine (HTx.out _ _ _ hlb).mono ?_; rintro e wc ⟨rfl, hbc⟩; have hec : Below wa.heap.size wa wc := heb.trans (hbc.mono heb.size)))
      have HBd : Hid (Below wr.heap.size wr wc) := Lib.hid (HBa.out.trans (hec.mono HBa.out.size))
      have HBxd := Lib.hid (HBk.out.below hec HBk.out.lt)
      have HGd := Lib.hid (HG.out.below HBd.out)
      have HOd : Hid (Below w1.heap.size w1 wc) := Lib.hid (HO.out.trans (HBd.out.mono hsz))
      have HNB : Hid (∀ g ∈ gs, g.sl.ownBlock ≠ some gx) := Lib.hid fun g hg e => by have := ((HG.out.own (List.length_pos_of_mem hg)).rows g hg).lt _ e; have := HGX.out; omega
      obtain ⟨ga, hga⟩ := HGd.out.at_
      clear hlb hbb heb hbc hec Hkeep HPt HTx HBa HBk HG HO p0 p1 p2 p3 p4 p5 p6 p7 p8
      generalize hpt : textP (partB x.labs by_) = pt at *
      clear hpt
      generalize x.time.tdiv win = q at *
      subst hga
      have hgk := HFl.out.1
      go_upto_block 2 with fail
      go_cut [12] (fun vn wx => ∃ n : Nat, n ≤ gs.length ∧ vn = .int .i64 (n : Int) ∧ Hid (fst_ (notLt ltK (q, pt)) (gs.map prG) = n) ∧ wx = wc)
      case first =>
        go_wp2
        go_loopw [12] (fun vn wx => ∃ n : Nat, n ≤ gs.length ∧ vn = .int .i64 (n : Int) ∧ Hid (Lim q pt gs n) ∧ wx = wc) (fun vn _ => gs.length - (intOf vn).toNat)
        case atStart => exact ⟨0, Nat.zero_le _, rfl, Lib.hid fun i _ h => absurd h (by omega), rfl⟩
        case round =>
          obtain ⟨n, hng, rfl, HLm, rfl⟩ := hrel
          by_cases hl2 : n < gs.length
          · have d1 : decide ((n : Int) < (gs.length : Int)) = true := dct (by omega)
            have j0 : (0 : Int) ≤ (n : Int) := by omega
            have j9 : (n : Int) < (gs.length : Int) := by omega
            obtain ⟨c0, c1'⟩ := HGd.out.cells3 rfl hl2
            have HLt := Lib.hid (HLm.out.next hl2)
            have HFs := Lib.hid fun (h1 : ltK (gs[n].win, gs[n].part) (q, pt) = false) => HLm.out.fst hng (fun _ => h1)
            rw [ltK_eq] at HLt HFs
            obtain ⟨y, hy⟩ : ∃ y, y = gs[n] := ⟨_, rfl⟩
            rw [← hy] at c0 c1' HLt HFs
            clear hy
            obtain ⟨yw, yp, yA, yc, yl⟩ := y
            dsimp only at c0 c1' HLt HFs
            have hng1 : n + 1 ≤ gs.length := hl2
            by_cases h1 : yw < q
            · have d2 : decide (yw < q) = true := dct h1
              have HL2 := Lib.hid (HLt.out (by rw [d2]; rfl))
              clear HLt HFs
              go_wp2
              go_roundw
              case rel => exact ⟨n + 1, hng1, by go_num, HL2, by trivial⟩
              case measure => simp [intOf]; omega
            · have d2 : decide (yw < q) = false := dcf h1
              by_cases h2 : yw = q
              · have d3 : (yw == q) = true := eqt h2
                cases h3 : lessS yp pt
                · have d4 : Op.bytesLess yp.toList pt.toList = false := h3
                  have HL2 := Lib.hid (HFs.out (by rw [d2, h3]; simp))
                  clear HLt HFs h3
                  go_wp2
                  go_meet
                  exact ⟨n, hng, rfl, HL2, rfl⟩
                · have d4 : Op.bytesLess yp.toList pt.toList = true := h3
                  have HL2 := Lib.hid (HLt.out (by rw [d2, h3, dct h2]; rfl))
                  clear HLt HFs h3
                  go_wp2
                  go_roundw
                  case rel => exact ⟨n + 1, hng1, by go_num, HL2, by trivial⟩
                  case measure => simp [intOf]; omega
              · have d3 : (yw == q) = false := eqf h2
                have HL2 := Lib.hid (HFs.out (by rw [d2, dcf h2]; rfl))
                clear HLt HFs
                go_wp2
                go_meet
                exact ⟨n, hng, rfl, HL2, rfl⟩
          · have d1 : decide ((n : Int) < (gs.length : Int)) = false := dcf (by omega)
            have HL2 := Lib.hid (HLm.out.fst hng fun h => absurd h hl2)
            go_wp2
            go_meet
            exact ⟨n, hng, rfl, HL2, rfl⟩
      case rest =>
        obtain ⟨n, hng, rfl, HN, rfl⟩ := hcut
        go_upto_region 9 with fail
        go_cut [87] (fun v wx => ∃ b, v = .bool b ∧ Hid (b = false → ∃ hn : n < gs.length, ((gs[n]'hn).win, (gs[n]'hn).part) = (q, pt)) ∧ Hid (b = true → ∀ hn : n < gs.length, ((gs[n]'hn).win, (gs[n]'hn).part) ≠ (q, pt)) ∧ wx = wc)
        case first =>
          by_cases hl2 : n < gs.length
          · have d1 : ((n : Int) == (gs.length : Int)) = false := eqf (by omega)
            have j0 : (0 : Int) ≤ (n : Int) := by omega
            have j9 : (n : Int) < (gs.length : Int) := by omega
            obtain ⟨c0, c1'⟩ := HGd.out.cells3 rfl hl2
            have HY : Hid (((gs[n]).win, (gs[n]).part) = (gs[n].win, gs[n].part)) := Lib.hid rfl
            obtain ⟨y, hy⟩ : ∃ y, y = gs[n] := ⟨_, rfl⟩
            have HY := Lib.hid hy
            rw [← hy] at c0 c1'
            clear hy
            obtain ⟨yw, yp, yA, yc, yl⟩ := y
            dsimp only at c0 c1'
            have HYw : Hid (((gs[n]).win, (gs[n]).part) = (yw, yp)) := Lib.hid (by rw [← HY.out])
            clear HY
            by_cases h2 : yw = q
            · have d2 : (yw != q) = false := nef h2
              by_cases h3 : yp = pt
              · have d3 : (yp.toList == pt.toList) = true := by rw [bytes_eqd]; exact dct h3
                have H8 := Lib.hid (show ∃ hn : n < gs.length, ((gs[n]'hn).win, (gs[n]'hn).part) = (q, pt) from ⟨hl2, by rw [HYw.out, h2, h3]⟩)
                clear HYw
                go_wp2
                go_meet
                exact ⟨false, rfl, Lib.hid fun _ => H8.out, Lib.hid fun h => (by cases h), rfl⟩
              · have d3 : (yp.toList == pt.toList) = false := by rw [bytes_eqd]; exact dcf h3
                have H8 := Lib.hid (show ∀ hn : n < gs.length, ((gs[n]'hn).win, (gs[n]'hn).part) ≠ (q, pt) from fun hn e => h3 (by rw [HYw.out] at e; exact congrArg Prod.snd e))
                clear HYw
                go_wp2
                go_meet
                exact ⟨true, rfl, Lib.hid fun h => (by cases h), Lib.hid fun _ => H8.out, rfl⟩
            · have d2 : (yw != q) = true := net h2
              have H8 := Lib.hid (show ∀ hn : n < gs.length, ((gs[n]'hn).win, (gs[n]'hn).part) ≠ (q, pt) from fun hn e => h2 (by rw [HYw.out] at e; exact congrArg Prod.fst e))
              clear HYw
              go_wp2
              go_meet
              exact ⟨true, rfl, Lib.hid fun h => (by cases h), Lib.hid fun _ => H8.out, rfl⟩
          · have d1 : ((n : Int) == (gs.length : Int)) = true := eqt (by omega)
            go_wp2
            go_meet
            exact ⟨true, rfl, Lib.hid fun h => (by cases h), Lib.hid fun _ hn => absurd hn hl2, rfl⟩
        case rest =>
          obtain ⟨b, rfl, HEq, HNe, rfl⟩ := hcut
          go_upto_if 87 with (fail)
          go_cut [7] (fun o7 wx => ∃ W9 : World, W9 = wx ∧ ∃ (gs' : List (Gp Rw)) (A' : Option Addr) (c' : Nat) (hn : n < gs'.length), o7 = .slice A' gs'.length c' ∧ gs'.length ≤ k + 1 ∧ (gs'[n]'hn).rows.length ≤ k ∧ Hid (Gs (Sr.nine Rw.c) wx w1.heap.size 9 53 37 A' c' gs') ∧ Hid (∀ A c, (gs'.set n ⟨(gs'[n]'hn).win, (gs'[n]'hn).part, A, c, (gs'[n]'hn).rows ++ [x]⟩).map prG = stepR (keyR win by_) ltK (gs.map prG) x) ∧ Hid (Below w1.heap.size w1 wx) ∧ Hid (∀ g ∈ gs', g.sl.ownBlock ≠ some gx) ∧ Hid (Blk wx gx 37 #[.int .i64 x.kind, .int .i64 x.time, .slice x.A x.labs.length x.cp, .string x.text, .int .i64 x.value, .bool x.null, .int .i64 x.maker, .int .i64 x.seq, .int .i64 x.place]))
          case first =>
            rw [← HKey.out] at HN HEq HNe
            cases b
            · obtain ⟨hn, hke⟩ := HEq.out rfl
              have hst := oneR_old HN.out hn hke
              have hg := HFl.out
              have HGs := Lib.hid (HGd.out.own (by omega))
              go_wp2
              go_meet
              exact ⟨_, rfl, gs, some ⟨ga, 0, none⟩, cg, hn, rfl, by omega, hg.2 _ (List.getElem_mem hn), HGs, Lib.hid hst, HOd, HNB, HBxd⟩
            · obtain ⟨hn, hr0, hst⟩ := oneR_new HN.out hng (HNe.out rfl) (gs' := gs.take n ++ ⟨(keyR win by_ x).1, (keyR win by_ x).2, none, 0, []⟩ :: gs.drop n) rfl
              have hcap := HGd.out.cap
              have HN' := Lib.hid hst
              have HR0 := Lib.hid hr0
              have hwn : IntKind.i64.wrap (n : Int) = (n : Int) := by rw [IntKind.wrap_i64]; omega
              clear hst hr0
              go_wp2_with (at_builtin; go_must (refine wpList_append_sl _ rfl (.tmp 88) (.tmp 91) _ rfl wc.heap.size 53 _ 3 48 Try.underlying49 Try.infoGrR rfl (by omega) _ _ _ rfl (World.ownsRow_made wc #[] 0 (Nat.le_refl _) (Nat.zero_le _) rfl) wc.heap.size _ n cg ((gs.take n).flatMap Gp.cells) rfl (by have := HGd.out.rd.take hng; rw [flat3_take] at this; exact this.below ((Below.refl _ _).alloc (Nat.le_refl _) _)) (flat3_one _) (by unfold maxLen; omega) (by omega) (by simp) ?_))
              intro A6 c6 w6 hc61 hc62 hrd6 hbel6 hown6 _ _
              have hown6' : w6.ownsRow wc.heap.size 53 3 (.slice A6 n c6) n ((gs.take n).flatMap Gp.cells) := by simpa using hown6
              have hb56 : Below wc.heap.size wc w6 := ((Below.refl _ _).alloc (Nat.le_refl _) _).trans hbel6
              have hs6 := hb56.size
              have HO6 := Lib.hid hown6'
              have HB56 := Lib.hid hb56
              clear hown6 hown6' hrd6 hbel6 hb56 hc61 hc62
              go_wp2_with (at_builtin; go_must (refine wpList_append_sl _ rfl (.tmp 93) (.tmp 97) _ rfl wc.heap.size 53 _ 3 48 Try.underlying49 Try.infoGrR rfl (by omega) _ _ _ rfl (HO6.out.alloc _) (w6.heap.size + 1) _ 1 1 [.int .i64 q, .string pt, .slice none 0 0] rfl (Reads.made (n := 1) (size := 3) w6 _ _ rfl) (by intro u hu; simp at hu; rcases hu with rfl | rfl | rfl <;> rfl) (by unfold maxLen; omega) (by omega) (by simp; omega) ?_))
              intro A7 c7 w7 hc71 hc72 hrd7 hbel7 hown7 _ _
              have hb57 : Below wc.heap.size wc w7 := (HB56.out.alloc (by omega) _).trans hbel7
              have hs7 := hb57.size
              have hcut := Reads.cutR_ (k := n) (cap := cg) (n := gs.length) (HGd.out.rd.below hb57) hng hcap
              have hrun := fun W => sliceG_at W (some ⟨ga, 0, none⟩) gs.length cg n hng hcap
              have HO7 := Lib.hid hown7
              have HB57 := Lib.hid hb57
              rw [flat3_drop] at hcut
              generalize cutR (some ⟨ga, 0, none⟩) cg n 3 = AC at *
              have HCUT := Lib.hid hcut
              clear hown7 hrd7 hbel7 hb57 hc71 hc72 hcut
              go_wp2_with (at_builtin; go_must (refine wpList_append_sl _ rfl (.tmp 99) (.tmp 102) _ rfl wc.heap.size 53 _ 3 48 Try.underlying49 Try.infoGrR rfl (by omega) _ _ _ rfl HO7.out wc.heap.size AC (gs.length - n) (cg - n) ((gs.drop n).flatMap Gp.cells) rfl HCUT.out (flat3_one _) (by unfold maxLen; omega) (by omega) (by omega) ?_))
              intro A8 c8 w8 hc81 hc82 hrd8 hbel8 hown8 _ _
              have e8 : n + 1 + (gs.length - n) = gs.length + 1 := by omega
              have HL9 : Hid ((gs.take n ++ (⟨(keyR win by_ x).1, (keyR win by_ x).2, none, 0, []⟩ : Gp Rw) :: gs.drop n).length = gs.length + 1) := Lib.hid (by rw [List.length_append, List.length_cons, List.length_take, List.length_drop]; omega)
              rw [e8] at hown8 hc81 ⊢
              have HB8 : Hid (Below wc.heap.size wc w8) := Lib.hid (HB57.out.trans hbel8)
              have HG8 : Hid (Gs (Sr.nine Rw.c) w8 w1.heap.size 9 53 37 A8 c8 (gs.take n ++ ⟨(keyR win by_ x).1, (keyR win by_ x).2, none, 0, []⟩ :: gs.drop n)) := Lib.hid (HGd.out.ins HB8.out rfl (by
                rw [HL9.out, List.flatMap_append, List.flatMap_cons, HKey.out]
                have h9 := own_base (base' := w1.heap.size) hown8 HOd.out.size
                exact h9))
              have HN9 : Hid (∀ g ∈ gs.take n ++ (⟨(keyR win by_ x).1, (keyR win by_ x).2, none, 0, []⟩ : Gp Rw) :: gs.drop n, g.sl.ownBlock ≠ some gx) := Lib.hid fun g hg e => by
                rcases List.mem_append.1 hg with h1 | h1
                · exact HNB.out g (List.mem_of_mem_take h1) e
                · rcases List.mem_cons.1 h1 with rfl | h2
                  · cases e
                  · exact HNB.out g (List.mem_of_mem_drop h2) e
              have HX8 := Lib.hid (HBxd.out.below HB8.out HBxd.out.lt)
              have HO8 : Hid (Below w1.heap.size w1 w8) := Lib.hid (HOd.out.trans (HB8.out.mono HOd.out.size))
              have hgk1 := HFl.out.1
              clear hown8 hrd8 hbel8 e8 hrun hc82 HO6 HO7 HCUT HB56 HB57
              go_wp2
              go_meet
              exact ⟨_, rfl, _, A8, c8, hn, by rw [HL9.out], by rw [HL9.out]; omega, by rw [HR0.out]; exact Nat.zero_le _, HG8, HN', HO8, HN9, HX8⟩
          case rest =>
            clear HGd HOd HBxd HNB
            obtain ⟨wx, rfl, gs', A', c', hn, rfl, hgl, hrl, HGx, HS, HOx, HNBx, HBxx⟩ := hcut
            have hA : ∃ go, A' = some ⟨go, 0, none⟩ ∧ w1.heap.size ≤ go := by
              rcases HGx.out.out.2 with ⟨_, h0⟩ | ⟨go, _, _, e, hb, _⟩
              · omega
              · injection e with e _ _
                exact ⟨go, e, hb⟩
            obtain ⟨go, hA, hgo⟩ := hA
            have HG0 := Lib.hid (HGx.out.below (below_drewN_ (Below.refl _ _) 1))
            have HO0 := Lib.hid (below_drewN_ HOx.out 1)
            have HB0 := Lib.hid (HBxx.out.drewN 1)
            clear HGx HOx HBxx
            have hS0 : ∀ W : World, Gs (Sr.nine Rw.c) W w1.heap.size 9 53 37 A' c' gs' → W.cell? ⟨go, n * 3 + 2, none⟩ = some ((gs'[n]'hn).sl) ∧ W.frozen? ⟨go, n * 3 + 2, none⟩ = false := fun W hW => by
              have h9 := hW.out
              rw [hA] at h9
              exact ⟨by rw [h9.cellAt _ (by omega), fm_two hn], h9.frozenAt _⟩
            have hSb : ∀ w' : World, Blk w' gx 37 #[.int .i64 x.kind, .int .i64 x.time, .slice x.A x.labs.length x.cp, .string x.text, .int .i64 x.value, .bool x.null, .int .i64 x.maker, .int .i64 x.seq, .int .i64 x.place] → (w'.cell? ⟨gx, 0, none⟩ = some (.int .i64 x.kind) ∧ w'.cell? ⟨gx, 1, none⟩ = some (.int .i64 x.time) ∧ w'.cell? ⟨gx, 2, none⟩ = some (.slice x.A x.labs.length x.cp) ∧ w'.cell? ⟨gx, 3, none⟩ = some (.string x.text) ∧ w'.cell? ⟨gx, 4, none⟩ = some (.int .i64 x.value) ∧ w'.cell? ⟨gx, 5, none⟩ = some (.bool x.null) ∧ w'.cell? ⟨gx, 6, none⟩ = some (.int .i64 x.maker) ∧ w'.cell? ⟨gx, 7, none⟩ = some (.int .i64 x.seq) ∧ w'.cell? ⟨gx, 8, none⟩ = some (.int .i64 x.place)) := fun w' h9 => blk_nineR h9
            have HS0 := Lib.hid hS0
            have HSb := Lib.hid hSb
            clear hS0 hSb
            have hrow0 := HG0.out.rows _ (List.getElem_mem hn)
            have hnx := HNBx.out _ (List.getElem_mem hn)
            have HPu := Lib.hid fun (W W' : World) (hW : Gs (Sr.nine Rw.c) W w1.heap.size 9 53 37 A' c' gs') (A5 : Option Addr) (c5 : Nat) => hW.push (A' := A5) (c' := c5) (x := x) (W' := W') (by decide) hn hA
            subst hA
            have i1 : (0 : Int) ≤ (n : Int) := by omega
            have i2 : (n : Int) < (gs'.length : Int) := by omega
            have HSn := Lib.hid HS.out
            obtain ⟨y, hy⟩ : ∃ y, y = gs'[n]'hn := ⟨_, rfl⟩
            simp only [← hy] at HS HSn HPu hrow0 hnx HS0 hrl
            clear hy HSn
            obtain ⟨yw, yp, yA, yc, yl⟩ := y
            dsimp only at hrl hrow0
            have HR0 := Lib.hid hrow0
            have HNX := Lib.hid hnx
            clear hnx
            clear hrow0
            have hs1 := (HS0.out _ HG0.out).1
            go_wp2_with fail
            refine wp_region_T 12 (fun w' => w'.cell? ⟨go, n * 3 + 2, none⟩ = some (.slice yA yl.length yc) ∧ w'.cell? ⟨gx, 0, none⟩ = some (.int .i64 x.kind) ∧ w'.cell? ⟨gx, 1, none⟩ = some (.int .i64 x.time) ∧ w'.cell? ⟨gx, 2, none⟩ = some (.slice x.A x.labs.length x.cp) ∧ w'.cell? ⟨gx, 3, none⟩ = some (.string x.text) ∧ w'.cell? ⟨gx, 4, none⟩ = some (.int .i64 x.value) ∧ w'.cell? ⟨gx, 5, none⟩ = some (.bool x.null) ∧ w'.cell? ⟨gx, 6, none⟩ = some (.int .i64 x.maker) ∧ w'.cell? ⟨gx, 7, none⟩ = some (.int .i64 x.seq) ∧ w'.cell? ⟨gx, 8, none⟩ = some (.int .i64 x.place)) (by kernel_rfl) ⟨hs1, HSb.out _ HB0.out⟩ (fun hHeld => ?_)
            have hu : wx.drewN 1 = wx.drew := rfl
            rw [hu] at HG0 HO0 HB0 HR0
            clear hu
            refine wpAnyT_take (i := 0) (oi := _) (v := ?_) rfl (by kernel_rfl) (fun _ _ _ h => h) (Or.inl ⟨by kernel_rfl, ?_⟩) (by assumption) ?_; rotate_left; (focus (intro w hSw; (try dsimp only at hSw); go_simp; (try with_reducible rfl))); (try simp only [Act.put, List.getElem_toArray, List.getElem_cons_zero, List.setIfInBounds_toArray, List.set_cons_zero, List.set_cons_succ])
            refine wpAnyT_take (i := 1) (oi := _) (v := ?_) rfl (by kernel_rfl) (fun _ _ _ h => h) (Or.inl ⟨by kernel_rfl, ?_⟩) (by assumption) ?_; rotate_left; (focus (intro w hSw; (try dsimp only at hSw); go_simp; (try with_reducible rfl))); (try simp only [Act.put, List.getElem_toArray, List.getElem_cons_zero, List.getElem_cons_succ, List.setIfInBounds_toArray, List.set_cons_zero, List.set_cons_succ])
            refine wpAnyT_take (i := 2) (oi := _) (v := ?_) rfl (by kernel_rfl) (fun _ _ _ h => h) (Or.inl ⟨by kernel_rfl, ?_⟩) (by assumption) ?_; rotate_left; (focus (intro w hSw; (try dsimp only at hSw); go_simp; (try with_reducible rfl))); (try simp only [Act.put, List.getElem_toArray, List.getElem_cons_zero, List.getElem_cons_succ, List.setIfInBounds_toArray, List.set_cons_zero, List.set_cons_succ])
            refine wpAnyT_take (i := 3) (oi := _) (v := ?_) rfl (by kernel_rfl) (fun _ _ _ h => h) (Or.inl ⟨by kernel_rfl, ?_⟩) (by assumption) ?_; rotate_left; (focus (intro w hSw; (try dsimp only at hSw); go_simp; (try with_reducible rfl))); (try simp only [Act.put, List.getElem_toArray, List.getElem_cons_zero, List.getElem_cons_succ, List.setIfInBounds_toArray, List.set_cons_zero, List.set_cons_succ])
            refine wpAnyT_take (i := 4) (oi := _) (v := ?_) rfl (by kernel_rfl) (fun _ _ _ h => h) (Or.inl ⟨by kernel_rfl, ?_⟩) (by assumption) ?_; rotate_left; (focus (intro w hSw; (try dsimp only at hSw); go_simp; (try with_reducible rfl))); (try simp only [Act.put, List.getElem_toArray, List.getElem_cons_zero, List.getElem_cons_succ, List.setIfInBounds_toArray, List.set_cons_zero, List.set_cons_succ])
            refine wpAnyT_take (i := 5) (oi := _) (v := ?_) rfl (by kernel_rfl) (fun _ _ _ h => h) (Or.inl ⟨by kernel_rfl, ?_⟩) (by assumption) ?_; rotate_left; (focus (intro w hSw; (try dsimp only at hSw); go_simp; (try with_reducible rfl))); (try simp only [Act.put, List.getElem_toArray, List.getElem_cons_zero, List.getElem_cons_succ, List.setIfInBounds_toArray, List.set_cons_zero, List.set_cons_succ])
            refine wpAnyT_take (i := 6) (oi := _) (v := ?_) rfl (by kernel_rfl) (fun _ _ _ h => h) (Or.inl ⟨by kernel_rfl, ?_⟩) (by assumption) ?_; rotate_left; (focus (intro w hSw; (try dsimp only at hSw); go_simp; (try with_reducible rfl))); (try simp only [Act.put, List.getElem_toArray, List.getElem_cons_zero, List.getElem_cons_succ, List.setIfInBounds_toArray, List.set_cons_zero, List.set_cons_succ])
            refine wpAnyT_take (i := 7) (oi := _) (v := ?_) rfl (by kernel_rfl) (fun _ _ _ h => h) (Or.inl ⟨by kernel_rfl, ?_⟩) (by assumption) ?_; rotate_left; (focus (intro w hSw; (try dsimp only at hSw); go_simp; (try with_reducible rfl))); (try simp only [Act.put, List.getElem_toArray, List.getElem_cons_zero, List.getElem_cons_succ, List.setIfInBounds_toArray, List.set_cons_zero, List.set_cons_succ])
            generalize wx.drew = u0 at *
            have HG1 := Lib.hid (HG0.out.below ((Below.refl _ _).alloc (Nat.le_refl _) (.cells #[.int .i64 x.kind, .int .i64 x.time, .slice x.A x.labs.length x.cp, .string x.text, .int .i64 x.value, .bool x.null, .int .i64 x.maker, .int .i64 x.seq, .int .i64 x.place] 37)))
            have HO1 := Lib.hid (HO0.out.alloc HO0.out.size (.cells #[.int .i64 x.kind, .int .i64 x.time, .slice x.A x.labs.length x.cp, .string x.text, .int .i64 x.value, .bool x.null, .int .i64 x.maker, .int .i64 x.seq, .int .i64 x.place] 37))
            have HB1x := Lib.hid (HB0.out.alloc (.cells #[.int .i64 x.kind, .int .i64 x.time, .slice x.A x.labs.length x.cp, .string x.text, .int .i64 x.value, .bool x.null, .int .i64 x.maker, .int .i64 x.seq, .int .i64 x.place] 37))
            have hrd : Reads (u0.alloc (.cells #[.int .i64 x.kind, .int .i64 x.time, .slice x.A x.labs.length x.cp, .string x.text, .int .i64 x.value, .bool x.null, .int .i64 x.maker, .int .i64 x.seq, .int .i64 x.place] 37)) (u0.heap.size + 1) 9 (some ⟨u0.heap.size, 0, none⟩) 1 [.int .i64 x.kind, .int .i64 x.time, .slice x.A x.labs.length x.cp, .string x.text, .int .i64 x.value, .bool x.null, .int .i64 x.maker, .int .i64 x.seq, .int .i64 x.place] := Reads.made (n := 1) (size := 9) u0 _ 37 rfl
            have hr1 := HR0.out.alloc (.cells #[.int .i64 x.kind, .int .i64 x.time, .slice x.A x.labs.length x.cp, .string x.text, .int .i64 x.value, .bool x.null, .int .i64 x.maker, .int .i64 x.seq, .int .i64 x.place] 37)
            have hwu := HO0.out.size
            clear HG0 HO0 HB0 HR0 hHeld
            refine wpAnyT_one (i := 8) (by kernel_rfl) rfl (fun K hK => ?_); go_simp
            refine hK.out _ _ (fun _ => ⟨(HS0.out _ HG1.out).1, HSb.out _ HB1x.out⟩) ?_
            clear hK K
            (try simp only [Act.put, List.getElem_toArray, List.getElem_cons_zero, List.getElem_cons_succ, List.setIfInBounds_toArray, List.set_cons_zero, List.set_cons_succ])
            refine wpAnyT_one (i := 9) (by kernel_rfl) rfl (fun K hK => ?_)
            refine step_append_sl _ rfl (.tmp 110) (.tmp 112) _ rfl w1.heap.size 37 _ 9 96 Try.underlying33 Try.infoRow rfl (by omega) _ _ _ rfl hr1 (u0.heap.size + 1) _ 1 1 _ rfl hrd (nine_one x) (by unfold maxLen; omega) (by omega) (by simp; omega) ?_
            intro A5 c5 w5 hc51 hc52 hr5 hbel5 hown5 hgr5 hob5
            have hrowY : ∀ b, (Value.slice yA yl.length yc).ownBlock = some b → w1.heap.size ≤ b := fun b hb => (hr1.lt b hb).1
            have hG5 : (w5.cell? ⟨go, n * 3 + 2, none⟩ = some (.slice yA yl.length yc)) ∧ w5.frozen? ⟨go, n * 3 + 2, none⟩ = false := by
              have h9 := HG1.out.out.kept hgr5 (blk_apart HG1.out.out hr1 (by decide))
              have h8 := HS0.out _ HG1.out
              obtain ⟨h7, h6⟩ := h8
              refine ⟨?_, h9.frozenAt _⟩
              rw [h9.cellAt _ (by omega), ← HG1.out.out.cellAt _ (by omega)]
              exact h7
            obtain ⟨hc5, hf5⟩ := hG5
            have hb5 : Blk w5 gx 37 #[.int .i64 x.kind, .int .i64 x.time, .slice x.A x.labs.length x.cp, .string x.text, .int .i64 x.value, .bool x.null, .int .i64 x.maker, .int .i64 x.seq, .int .i64 x.place] := HB1x.out.grown hgr5 (fun e => by
              exact HNX.out e.symm)
            have hSb5 := HSb.out _ hb5
            have HG5 := Lib.hid (HPu.out _ w5 HG1.out A5 c5 hown5 hgr5 hob5)
            have HO5 : Hid (Below w1.heap.size w1 (w5.setCell ⟨go, n * 3 + 2, none⟩ (.slice A5 (yl.length + 1) c5))) := Lib.hid ((HO1.out.trans hbel5).setCell (p := ⟨go, n * 3 + 2, none⟩) hgo _)
            have hHeld5 := And.intro hc5 hSb5
            refine hK.out _ _ (fun _ => hHeld5) ?_
            clear hK K hrd hr1 hown5 hgr5 hob5 hrowY hbel5 hr5 hc51 hc52 HG1 HO1
            (try simp only [Act.put, List.getElem_toArray, List.getElem_cons_zero, List.getElem_cons_succ, List.setIfInBounds_toArray, List.set_cons_zero, List.set_cons_succ])
            refine wpAnyT_one (i := 10) (by kernel_rfl) rfl (fun K hK => ?_); go_simp; refine hK.out _ _ (fun _ => hHeld5) ?_; clear hK K; (try simp only [Act.put, List.getElem_toArray, List.getElem_cons_zero, List.getElem_cons_succ, List.setIfInBounds_toArray, List.set_cons_zero, List.set_cons_succ])
            refine wpAnyT_one (i := 11) (by kernel_rfl) rfl (fun K hK => ?_); go_simp; refine hK.out _ _ (fun _ => hHeld5) ?_; clear hK K; (try simp only [Act.put, List.getElem_toArray, List.getElem_cons_zero, List.getElem_cons_succ, List.setIfInBounds_toArray, List.set_cons_zero, List.set_cons_succ])
            refine wpAnyT_one (i := 12) (by kernel_rfl) rfl (fun K hK => ?_); go_simp
            refine hK.out _ _ (fun h => absurd rfl h) (wpAnyT_done (by kernel_rfl) ?_ _)
            clear hK K
            have HL5 : Hid ((gs'.set n ⟨yw, yp, A5, c5, yl ++ [x]⟩).length = gs'.length) := Lib.hid List.length_set
            have HE5 : Hid ((gs'.set n ⟨yw, yp, A5, c5, yl ++ [x]⟩).map prG = foldR (keyR win by_) ltK (d.take (k + 1))) := Lib.hid (by rw [HSp.out]; exact HS.out A5 c5)
            have HG6 := Lib.hid (HG5.out.gr (by rw [HL5.out]; omega))
            go_wp2
            go_roundw
            case rel => exact ⟨k + 1, _, some ⟨go, 0, none⟩, c', by omega, by go_num, by rw [HL5.out], HG6, HE5, HO5⟩
            case measure => simp [intOf]; omega
    · obtain rfl : k = d.length := by omega
      have HE9 : Hid (gs.map prG = foldR (keyR win by_) ltK (isort (Sr.ltc cfR) l)) := Lib.hid (by have := HF.out; rw [List.take_length, HD.out] at this; exact this)
      have HG9 : Hid (Gr (Sr.nine Rw.c) wr w.heap.size 9 53 37 Ag cg gs) := Lib.hid ⟨HG.out.rd, HG.out.cap, HG.out.at_, fun h0 => (HG.out.own h0).low (by omega)⟩
      have HB9 : Hid (Below w.heap.size w wr) := Lib.hid (HB1.out.trans (HO.out.mono (by omega)))
      go_wp2
      go_ret
      exact ⟨Ag, cg, gs, rfl, HG9.out, HE9.out, HB9.out⟩
end Go.Proofs.Ytennddlihcamnaa.Sp
