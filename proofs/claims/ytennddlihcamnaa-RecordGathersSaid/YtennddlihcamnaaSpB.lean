/- record.Split (chapter 9), walked. -/
import Derived.Test.YtennddlihcamnaaProg
import Derived.Test.YtennddlihcamnaaSpT
import Derived.Test.YtennddlihcamnaaSpU
import Derived.DeepKeys4
import Derived.Deep.Cut
import Derived.Test.YtennddlihcamnaaTail
namespace Go.Proofs.Ytennddlihcamnaa.Sp
set_option linter.unusedVariables false
set_option linter.unusedSimpArgs false
open Go.RowKit Go.Proofs.Ytennddlihcamnaa Go.Proofs.Ytennddlihcamnaa.So

theorem Try.laid : laidOutB Try.prog = true := by kernel_rfl
theorem Try.rowPl : (72 : TypeId) < Try.prog.types.size := of_decide_eq_true (by kernel_rfl)
theorem Try.undPl : Try.prog.underlying 72 = some (.struct (Try.prog.fieldsOf 72)) := by kernel_rfl
theorem Try.lawPl : WideMaps.KeyLaw Try.prog 72 := deep_law_laid Try.laid (m := 2) (by omega) Try.rowPl (by kernel_rfl) (by rw [Try.undPl])
theorem Try.plK : PlaceK Try.prog 72 3 9 (Try.prog.fieldsOf 72) where
  und := by kernel_rfl
  fields := by kernel_rfl
  named := by kernel_rfl
  cells := by kernel_rfl
  int := Try.underlying3
  str := Try.underlying9
  isKey := by kernel_rfl
  size := of_decide_eq_true (by kernel_rfl)
  law := Go.Maps.Keyed.of_law Try.lawPl
noncomputable abbrev plT : KeyT Try.prog 72 Place := placeT Try.plK
abbrev natV (n : Nat) : Value := .int .i64 (n : Int)
theorem Try.infoGroup : (Try.prog.info? 52).map (fun i => (i.zero, i.size, i.bytes)) = some (some (.agg #[.int .i64 0, .string ⟨#[]⟩, .slice none 0 0]), 3, 48) := by kernel_rfl
theorem zInt (w : World) : (zeroValue 3).run Try.prog w = .ok (.int .i64 0) w := by kernel_rfl

/-- What Split hands back. -/
def RetSplit (w : World) (l : List Rw) (key : Rw → Int × ByteArray) (e : Ending) (w' : World) : Prop :=
  ∃ A c gs d, e = .returned (.slice A gs.length c) ∧ SameL d (isort (Sr.ltc cfR) l) ∧ (∀ x ∈ d, w'.ownsRow w.heap.size 39 2 (.slice x.A x.labs.length x.cp) x.labs.length (labCells x.labs)) ∧
    Gs (Sr.nine Rw.c) w' w.heap.size 9 52 37 A c gs ∧ gs.map prG = foldR key ltK d ∧ Below w.heap.size w w'

set_option maxRecDepth 100000 in
set_option maxHeartbeats 6400000 in
theorem split_calls (w : World) {B B2 c c2 : Nat} {A A2 : Option Addr} {l : List Rw} {by_ : List ByteArray} {win : Int} (h : Rows w B A l) (hB : B ≤ w.heap.size) (hn : l.length ≤ 200) (h2 : Strs w B2 A2 by_) (hB2 : B2 ≤ w.heap.size) (hn2 : by_.length ≤ 140737488355328) (hw : 1 ≤ win) (hw9 : win ≤ 9223372036854775807) :
    Calls Try.prog 24 #[.slice A l.length c, .int .i64 win, .slice A2 by_.length c2] w (RetSplit w l (keyR win by_)) := by
  have HSO := Lib.hid (sort_calls (w.alloc (.map #[] 0)) (c := c) (h.below ((Below.refl B w).alloc hB _)) (by simp; omega) hn)
  have HFit := Lib.hid h.fits
  have HST := Lib.hid h2
  have HM0 : Hid (MapAt plT natV (w.alloc (.map #[] 0)) w.heap.size ([] : List (Place × Nat))) := Lib.hid (MapAt.new plT natV w)
  have hw1 : ¬ win < 1 := by omega
  have hw0 : win ≠ 0 := by omega
  clear h h2
  have hmm := @run_makeMap Try.prog
  go_enter Try.func24, Try.ntmps24
  go_wp2_with fail
  refine HSO.out.mono ?_
  rintro e w1 ⟨A1, c1, d, rfl, hdl, hsm, hro, hb1⟩
  have hmb : w.heap.size < w1.heap.size := by have := hb1.size; simp at this; omega
  have es : (w.alloc (.map #[] 0)).heap.size = w.heap.size + 1 := by simp
  rw [es] at hro hb1
  have HRO := Lib.hid hro
  have HM1 := Lib.hid (HM0.out.below hb1 (by omega))
  have HB1 : Hid (Below w.heap.size w w1) := Lib.hid (((Below.refl _ _).alloc (Nat.le_refl _) _).trans (hb1.mono (by omega)))
  have HSM := Lib.hid hsm
  have hdn : d.length ≤ 200 := by omega
  have HFd : Hid (∀ x ∈ d, FitW x) := Lib.hid (SameL.fits (Eq.symm hsm) fun x hx => HFit.out x ((isort_perm l).mem_iff.1 hx))
  clear HSO HM0 hro hb1 hsm es
  rw [← hdl] at *
  clear hmm
  go_wp2
  go_loopw [8, 22] (fun v i wr => ∃ (k : Nat) (m : List (Place × Nat)) (gs : List (Gp Rw)) (Ag : Option Addr) (cg : Nat), k ≤ d.length ∧ i = .int .i64 (k : Int) ∧ v = .slice Ag gs.length cg ∧ Hid (Gs (Sr.nine Rw.c) wr w1.heap.size 9 52 37 Ag cg gs) ∧ Hid (MapAt plT natV wr w.heap.size m) ∧ Hid (Idx m (gs.map prG)) ∧ Hid (m.length ≤ k) ∧ Hid (gs.map prG = foldG (keyR win by_) (d.take k)) ∧ Hid (Only w.heap.size w1 wr)) (fun _ i _ => d.length - (intOf i).toNat)
  case atStart => exact ⟨0, [], [], none, 0, Nat.zero_le _, rfl, rfl, Lib.hid Gs.nil, HM1, Lib.hid Idx.nil, Lib.hid (Nat.zero_le _), Lib.hid rfl, Lib.hid (Only.refl _ _)⟩
  case round =>
    obtain ⟨k, m, gs, Ag, cg, hk, rfl, rfl, HG, HM, HI, HML, HF, HO⟩ := hrel
    have HRr := Lib.hid (RowsO.only_ HRO.out HO.out (by omega))
    by_cases hlt : k < d.length
    · have hsz := HO.out.size
      have hrr := HRr.out.rows HFd.out
      obtain ⟨g1, o1, e1, hg1, -⟩ := reads_nine hrr.reads (by omega)
      have HP := Lib.hid (reads_nine_at hrr.reads e1 hlt)
      have k1 := hrr.each _ (show Sr.gt d k ∈ d by rw [← Sr.gt_eq hlt]; exact List.getElem_mem _)
      have hstep := fold_take (key := keyR win by_) hlt
      have hfl := fold_len HF.out
      rw [← HF.out] at hstep
      have HSp := Lib.hid hstep
      have HFl := Lib.hid hfl
      subst e1
      generalize Sr.gt d k = x at *
      have HK1 := Lib.hid k1
      obtain ⟨p0, p1, p2, p3, p4, p5, p6, p7, p8⟩ := HP.out
      clear HP hrr k1 hstep hfl
      have HBr : Hid (Below w.heap.size w wr) := Lib.hid (HB1.out.trans (HO.out.below (Nat.le_refl _) (by omega)))
      have i0 : (0 : Int) ≤ (k : Int) := by omega
      have i9 : (k : Int) < (d.length : Int) := by omega
      go_wp2_with fail
      have hbk := Blk.new wr 37 #[.int .i64 x.kind, .int .i64 x.time, .slice x.A x.labs.length x.cp, .string x.text, .int .i64 x.value, .bool x.null, .int .i64 x.maker, .int .i64 x.seq, .int .i64 x.place]
      have hba := (Below.refl wr.heap.size wr).alloc (Nat.le_refl _) (.cells #[.int .i64 x.kind, .int .i64 x.time, .slice x.A x.labs.length x.cp, .string x.text, .int .i64 x.value, .bool x.null, .int .i64 x.maker, .int .i64 x.seq, .int .i64 x.place] 37)
      have hsa : (wr.alloc (.cells #[.int .i64 x.kind, .int .i64 x.time, .slice x.A x.labs.length x.cp, .string x.text, .int .i64 x.value, .bool x.null, .int .i64 x.maker, .int .i64 x.seq, .int .i64 x.place] 37)).heap.size = wr.heap.size + 1 := by simp
      obtain ⟨gx, hgx⟩ : ∃ gx, gx = wr.heap.size := ⟨_, rfl⟩
      rw [← hgx] at hbk ⊢
      have HGX := Lib.hid hgx
      clear hgx
      generalize wr.alloc (.cells #[.int .i64 x.kind, .int .i64 x.time, .slice x.A x.labs.length x.cp, .string x.text, .int .i64 x.value, .bool x.null, .int .i64 x.maker, .int .i64 x.seq, .int .i64 x.place] 37) = wa at *
      have HBk := Lib.hid hbk
      have HBa := Lib.hid hba
      clear hbk hba
      refine (part_calls wa (c := x.cp) (c2 := c2) (HK1.out.labs.below HBa.out) HBa.out.size (HST.out.below ((HBr.out.trans (HBa.out.mono HBr.out.size)).mono hB2)) (by have := HBr.out.size; have := HBa.out.size; omega) HK1.out.len hn2).mono ?_
      rintro e wb ⟨A3, c3, rfl, hlb, -, hbb⟩
      have HLb := Lib.hid hlb
      have HBb : Hid (Below wr.heap.size wr wb) := Lib.hid (HBa.out.trans (hbb.mono HBa.out.size))
      have HBkb := Lib.hid (HBk.out.below hbb HBk.out.lt)
      have hpl := part_le x.labs by_
      have hkl := HK1.out.len
      have HTx := Lib.hid (text_any wb (c := c3) HLb.out (Nat.le_refl _) (part_fit HK1.out.fit by_) (by omega))
      clear hlb hbb HBa HBk hpl hkl
      go_wp2_with fail
      refine HTx.out.mono ?_
      rintro e wc ⟨z, rfl, hbc⟩
      have HBc : Hid (Below wr.heap.size wr wc) := Lib.hid (HBb.out.trans (hbc.mono HBb.out.size))
      have hbkc := HBkb.out.below hbc HBkb.out.lt
      have HBkc := Lib.hid hbkc
      have q1 := hbkc.cell 1
      simp only [List.getElem?_toArray, List.getElem?_cons_zero, List.getElem?_cons_succ] at q1
      have HKey : Hid (keyR win by_ x = (x.time.tdiv win, textP (partB x.labs by_))) := Lib.hid rfl
      have ht := tdiv_in HK1.out.time hw
      have hwr : IntKind.i64.wrap (x.time.tdiv win) = x.time.tdiv win := wrap_i64_tdiv _ _ HK1.out.time.1 HK1.out.time.2 hw
      clear hbc HTx HLb HBkb HBb hbkc
      generalize hpt : textP (partB x.labs by_) = pt at *
      have hptl : pt.size ≤ maxLen := by rw [← hpt]; exact textP_len _
      clear hpt
      go_upto_region 10 with fail
      have hbp := Blk.new wc 72 #[.int .i64 (x.time.tdiv win), .string pt]
      have hbd := HBc.out.alloc HBc.out.size (.cells #[.int .i64 (x.time.tdiv win), .string pt] 72)
      have hbkd := HBkc.out.alloc (.cells #[.int .i64 (x.time.tdiv win), .string pt] 72)
      obtain ⟨gp, hgp⟩ : ∃ gp, gp = wc.heap.size := ⟨_, rfl⟩
      have hgpm : gp ≠ w.heap.size := by have := HBc.out.size; omega
      rw [← hgp] at hbp ⊢
      clear hgp
      generalize wc.alloc (.cells #[.int .i64 (x.time.tdiv win), .string pt] 72) = wd at *
      generalize x.time.tdiv win = q at *
      have HBd := Lib.hid hbd
      have HBxd := Lib.hid hbkd
      have HBp := Lib.hid hbp
      have HGX2 : Hid (gx ≠ w.heap.size) := Lib.hid (by have := HGX.out; omega)
      clear hbp hbd hbkd HBc HBkc q1
      obtain ⟨p, hp⟩ : ∃ p : Place, p = ⟨(q, pt), wf_of ht, hptl⟩ := ⟨_, rfl⟩
      have HPk : Hid (p.1 = keyR win by_ x) := Lib.hid (by rw [hp, HKey.out])
      have hval : plT.val p = .agg #[.int .i64 q, .string pt] := by rw [hp]; rfl
      clear hp
      have HNB : Hid (∀ g ∈ gs, g.sl.ownBlock ≠ some gx) := Lib.hid fun g hg e => by have := (HG.out.rows g hg).lt _ e; have := HGX.out; omega
      have HMd := Lib.hid (HM.out.below HBd.out (by omega))
      have HGd := Lib.hid (HG.out.below HBd.out)
      have HOd : Hid (Only w.heap.size w1 wd) := Lib.hid (HO.out.trans (Only.of_below HBd.out))
      clear HM HG HO
      have p0 := HBp.out.cell 0
      have p1 := HBp.out.cell 1
      simp only [List.getElem?_toArray, List.getElem?_cons_zero, List.getElem?_cons_succ] at p0 p1
      obtain ⟨v0, hv0⟩ : ∃ v, (mget m p).elim (.int .i64 0) natV = v := ⟨_, rfl⟩
      obtain ⟨b0, hb0⟩ : ∃ b, (mget m p).isSome = b := ⟨_, rfl⟩
      have hlk : (Instr.lookup 67 (.map (some w.heap.size)) (.agg #[.int .i64 q, .string pt]) true).run Try.prog wd = .ok (.tuple #[v0, .bool b0]) wd := by
        have := HMd.out.ask_at Try.underlying67 (zInt _) (x := p) trivial hv0 hb0
        rwa [hval] at this
      have HV := Lib.hid hv0
      have HBo := Lib.hid hb0
      clear hv0 hb0
      go_upto_if 49 with (fail)
      clear hlk
      go_cut [8, 14] (fun o8 v14 wx => ∃ W9 : World, W9 = wx ∧ ∃ (m' : List (Place × Nat)) (gs' : List (Gp Rw)) (A' : Option Addr) (c' n : Nat) (hn : n < gs'.length), o8 = .slice A' gs'.length c' ∧ v14 = .int .i64 (n : Int) ∧ gs'.length ≤ k + 1 ∧ (gs'[n]'hn).rows.length ≤ k ∧ Hid (Gs (Sr.nine Rw.c) wx w1.heap.size 9 52 37 A' c' gs') ∧ Hid (MapAt plT natV wx w.heap.size m') ∧ Hid (m'.length ≤ k + 1) ∧ Hid (∀ A c, (gs'.set n ⟨(gs'[n]'hn).win, (gs'[n]'hn).part, A, c, (gs'[n]'hn).rows ++ [x]⟩).map prG = stepG (keyR win by_) (gs.map prG) x) ∧ Hid (∀ A c, Idx m' ((gs'.set n ⟨(gs'[n]'hn).win, (gs'[n]'hn).part, A, c, (gs'[n]'hn).rows ++ [x]⟩).map prG)) ∧ Hid (Only w.heap.size w1 wx) ∧ Hid (∀ g ∈ gs', g.sl.ownBlock ≠ some gx) ∧ Hid (Blk wx gx 37 #[.int .i64 x.kind, .int .i64 x.time, .slice x.A x.labs.length x.cp, .string x.text, .int .i64 x.value, .bool x.null, .int .i64 x.maker, .int .i64 x.seq, .int .i64 x.place]))
      case first =>
        cases hmg : mget m p with
        | none =>
          obtain ⟨hn, hst, hix⟩ := one_new plT.lt HI.out HPk.out hmg (gs ++ [⟨q, pt, none, 0, []⟩]) (by rw [HKey.out])
          have HN := Lib.hid hst
          have HNI := Lib.hid hix
          obtain rfl : Value.int .i64 0 = v0 := by have := HV.out; rw [hmg] at this; exact this
          obtain rfl : false = b0 := by have := HBo.out; rw [hmg] at this; exact this
          clear hst hix hmg HV HBo
          go_wp2_with (at_mapUpdate; go_must (refine wpList_put _ rfl _ _ _ rfl HMd.out Try.underlying67 p gs.length rfl (by rw [hval]; rfl) rfl trivial (by have := HML.out; unfold maxLen; omega) ?_))
          intro we hMe hge hse
          have hbpe := HBp.out.grown hge (fun e => hgpm (by injection e))
          have p0 := hbpe.cell 0
          have p1 := hbpe.cell 1
          simp only [List.getElem?_toArray, List.getElem?_cons_zero, List.getElem?_cons_succ] at p0 p1
          have HBxe := Lib.hid (HBxd.out.grown hge (fun e => HGX2.out (by injection e)))
          have HGe := Lib.hid (HGd.out.only hge hmb)
          have HMe := Lib.hid hMe
          have HOe : Hid (Only w.heap.size w1 we) := Lib.hid (HOd.out.trans hge)
          have hrd : Reads (we.alloc (.cells #[.int .i64 q, .string pt, .slice none 0 0] 52)) (we.heap.size + 1) 3 (some ⟨we.heap.size, 0, none⟩) 1 [.int .i64 q, .string pt, .slice none 0 0] := Reads.made (n := 1) (size := 3) we _ 52 rfl
          have hcs := HGe.out.out.alloc (.cells #[.int .i64 q, .string pt, .slice none 0 0] 52)
          have hwe := HOe.out.size
          have hgl := HFl.out.1
          clear hbpe hge hse hMe
          go_wp2_with (at_builtin; go_must (refine wpList_append_sl _ rfl (.tmp 55) (.tmp 61) _ rfl w1.heap.size 52 _ 3 48 Try.underlying47 Try.infoGroup rfl (by omega) _ _ _ rfl hcs (we.heap.size + 1) _ 1 1 _ rfl hrd (by intro u hu; simp at hu; rcases hu with rfl | rfl | rfl <;> rfl) (by unfold maxLen; omega) (by omega) (by simp; omega) ?_))
          intro A4 c4 wg hc1 hc2 hrd4 hbel4 hown4 hgr4 hob4
          have hadd := (HGe.out.below ((Below.refl _ _).alloc (Nat.le_refl _) (.cells #[.int .i64 q, .string pt, .slice none 0 0] 52))).add (by decide) hown4 hgr4
          have hrow : ∀ b, (Value.slice Ag gs.length cg).ownBlock = some b → w1.heap.size ≤ b := fun b hb => (hcs.lt b hb).1
          have HGg := Lib.hid hadd
          have HMg := Lib.hid ((HMe.out.alloc (.cells #[.int .i64 q, .string pt, .slice none 0 0] 52)).kept hgr4 (fun e => by have := hrow _ e.symm; omega))
          have HOg := Lib.hid (Sp.Only.row (HOe.out.alloc (.cells #[.int .i64 q, .string pt, .slice none 0 0] 52)) hgr4 hrow)
          have HBg : Hid (Blk wg gx 37 #[.int .i64 x.kind, .int .i64 x.time, .slice x.A x.labs.length x.cp, .string x.text, .int .i64 x.value, .bool x.null, .int .i64 x.maker, .int .i64 x.seq, .int .i64 x.place]) := Lib.hid ((HBxe.out.alloc (.cells #[.int .i64 q, .string pt, .slice none 0 0] 52)).grown hgr4 (fun e => by
            obtain ⟨cur, hcur⟩ := own_blkT hcs e.symm
            have h9 : _ = _ := HBxe.out.alloc (.cells #[.int .i64 q, .string pt, .slice none 0 0] 52)
            rw [hcur] at h9
            injection h9 with h9
            injection h9 with _ h9
            exact absurd h9 (by decide)))
          clear hadd hrow hcs hown4 hgr4 hob4 hrd4 hbel4 hrd HGe HMe HOe HBxe
          have HNB9 : Hid (∀ g ∈ gs ++ [(⟨q, pt, none, 0, []⟩ : Gp Rw)], g.sl.ownBlock ≠ some gx) := Lib.hid fun g hg e => by
            rcases List.mem_append.1 hg with h1 | h1
            · exact HNB.out g h1 e
            · rw [List.mem_singleton.1 h1] at e; cases e
          have HL9 : Hid ((gs ++ [(⟨q, pt, none, 0, []⟩ : Gp Rw)]).length = gs.length + 1) := Lib.hid (by rw [List.length_append]; rfl)
          have HR9 : Hid (((gs ++ [(⟨q, pt, none, 0, []⟩ : Gp Rw)])[gs.length]'hn).rows.length ≤ k) := Lib.hid (by rw [List.getElem_append_right (Nat.le_refl _)]; simp)
          have HM9 : Hid ((mput plT.lt m p gs.length).length ≤ k + 1) := Lib.hid (Nat.le_trans (mput_len _ _ _ _) (by have := HML.out; omega))
          go_wp2
          go_meet
          exact ⟨_, rfl, mput plT.lt m p gs.length, gs ++ [⟨q, pt, none, 0, []⟩], A4, c4, gs.length, hn, by rw [HL9.out], rfl, by have := HL9.out; omega, HR9.out, HGg, HMg, HM9, HN, HNI, HOg, HNB9, HBg⟩
        | some n =>
          obtain ⟨hn, hst, hix⟩ := one_old HI.out HPk.out hmg
          obtain rfl : natV n = v0 := by have := HV.out; rw [hmg] at this; exact this
          obtain rfl : true = b0 := by have := HBo.out; rw [hmg] at this; exact this
          have hg := HFl.out
          go_wp2
          go_meet
          exact ⟨_, rfl, m, gs, Ag, cg, n, hn, rfl, rfl, by omega, hg.2 _ (List.getElem_mem hn), HGd, HMd, Lib.hid (by have := HML.out; omega), Lib.hid hst, Lib.hid hix, HOd, HNB, HBxd⟩
      case rest =>
        clear HV HBo HGd HMd HOd HBxd p0 p1 HBp hval
        obtain ⟨wx, rfl, m', gs', A', c', n, hn, rfl, rfl, hgl, hrl, HGx, HMx, HMLx, HS, HIx, HOx, HNBx, HBxx⟩ := hcut
        have hA : ∃ go, A' = some ⟨go, 0, none⟩ ∧ w1.heap.size ≤ go := by
          rcases HGx.out.out.2 with ⟨_, h0⟩ | ⟨go, _, _, e, hb, _⟩
          · omega
          · injection e with e _ _
            exact ⟨go, e, hb⟩
        obtain ⟨go, hA, hgo⟩ := hA
        have HG0 := Lib.hid (HGx.out.below (below_drewN_ (Below.refl _ _) 1))
        have HM0 := Lib.hid (HMx.out.drewN 1)
        have HO0 := Lib.hid (Only.drewN HOx.out 1)
        have HB0 := Lib.hid (HBxx.out.drewN 1)
        clear HGx HMx HOx HBxx
        have hS0 : ∀ W : World, Gs (Sr.nine Rw.c) W w1.heap.size 9 52 37 A' c' gs' → W.cell? ⟨go, n * 3 + 2, none⟩ = some ((gs'[n]'hn).sl) ∧ W.frozen? ⟨go, n * 3 + 2, none⟩ = false := fun W hW => by
          have h9 := hW.out
          rw [hA] at h9
          exact ⟨by rw [h9.cellAt _ (by omega), fm_two hn], h9.frozenAt _⟩
        have hSb : ∀ w' : World, Blk w' gx 37 #[.int .i64 x.kind, .int .i64 x.time, .slice x.A x.labs.length x.cp, .string x.text, .int .i64 x.value, .bool x.null, .int .i64 x.maker, .int .i64 x.seq, .int .i64 x.place] → (w'.cell? ⟨gx, 0, none⟩ = some (.int .i64 x.kind) ∧ w'.cell? ⟨gx, 1, none⟩ = some (.int .i64 x.time) ∧ w'.cell? ⟨gx, 2, none⟩ = some (.slice x.A x.labs.length x.cp) ∧ w'.cell? ⟨gx, 3, none⟩ = some (.string x.text) ∧ w'.cell? ⟨gx, 4, none⟩ = some (.int .i64 x.value) ∧ w'.cell? ⟨gx, 5, none⟩ = some (.bool x.null) ∧ w'.cell? ⟨gx, 6, none⟩ = some (.int .i64 x.maker) ∧ w'.cell? ⟨gx, 7, none⟩ = some (.int .i64 x.seq) ∧ w'.cell? ⟨gx, 8, none⟩ = some (.int .i64 x.place)) := fun w' h9 => blk_nineR h9
        have HS0 := Lib.hid hS0
        have HSb := Lib.hid hSb
        clear hS0 hSb
        have hrow0 := HG0.out.rows _ (List.getElem_mem hn)
        have hnx := HNBx.out _ (List.getElem_mem hn)
        have HPu := Lib.hid fun (W W' : World) (hW : Gs (Sr.nine Rw.c) W w1.heap.size 9 52 37 A' c' gs') (A5 : Option Addr) (c5 : Nat) => hW.push (A' := A5) (c' := c5) (x := x) (W' := W') (by decide) hn hA
        subst hA
        have i1 : (0 : Int) ≤ (n : Int) := by omega
        have i2 : (n : Int) < (gs'.length : Int) := by omega
        have HSn := Lib.hid HS.out
        obtain ⟨y, hy⟩ : ∃ y, y = gs'[n]'hn := ⟨_, rfl⟩
        simp only [← hy] at HS HIx HSn HPu hrow0 hnx HS0 hrl
        clear hy HSn
        obtain ⟨yw, yp, yA, yc, yl⟩ := y
        dsimp only at hrl hrow0
        have HR0 := Lib.hid hrow0
        have HNX := Lib.hid hnx
        clear hnx
        clear hrow0
        have hs1 := (HS0.out _ HG0.out).1
        go_wp2_with fail
        refine wp_region_T 12 (fun w' => w'.cell? ⟨go, n * 3 + 2, none⟩ = some (.slice yA yl.length yc) ∧ w'.cell? ⟨gx, 0, none⟩ = some (.int .i64 x.kind) ∧ w'.cell? ⟨gx, 1, none⟩ = some (.int .i64 x.time) ∧ w'.cell? ⟨gx, 2, none⟩ = some (.slice x.A x.labs.length x.cp) ∧ w'.cell? ⟨gx, 3, none⟩ = some (.string x.text) ∧ w'.cell? ⟨gx, 4, none⟩ = some (.int .i64 x.value) ∧ w'.cell? ⟨gx, 5, none⟩ = some (.bool x.null) ∧ w'.cell? ⟨gx, 6, none⟩ = some (.int .i64 x.maker) ∧ w'.cell? ⟨gx, 7, none⟩ = some (.int .i64 x.seq) ∧ w'.cell? ⟨gx, 8, none⟩ = some (.int .i64 x.place)) (by kernel_rfl) ⟨hs1, HSb.out _ HB0.out⟩ (fun hHeld => ?_)
        have hu : wx.drewN 1 = wx.drew := rfl
        rw [hu] at HG0 HM0 HO0 HB0 HR0
        clear hu
        refine wpAnyT_take (i := 0) (oi := _) (v := ?_) rfl (by kernel_rfl) (fun _ _ _ h => h) (Or.inl ⟨by kernel_rfl, ?_⟩) (by assumption) ?_; rotate_left; (focus (intro w hSw; (try dsimp only at hSw); go_simp; (try with_reducible rfl))); (try simp only [Act.put, List.getElem_toArray, List.getElem_cons_zero, List.setIfInBounds_toArray, List.set_cons_zero, List.set_cons_succ])
        refine wpAnyT_take (i := 1) (oi := _) (v := ?_) rfl (by kernel_rfl) (fun _ _ _ h => h) (Or.inl ⟨by kernel_rfl, ?_⟩) (by assumption) ?_; rotate_left; (focus (intro w hSw; (try dsimp only at hSw); go_simp; (try with_reducible rfl))); (try simp only [Act.put, List.getElem_toArray, List.getElem_cons_zero, List.getElem_cons_succ, List.setIfInBounds_toArray, List.set_cons_zero, List.set_cons_succ])
        refine wpAnyT_take (i := 2) (oi := _) (v := ?_) rfl (by kernel_rfl) (fun _ _ _ h => h) (Or.inl ⟨by kernel_rfl, ?_⟩) (by assumption) ?_; rotate_left; (focus (intro w hSw; (try dsimp only at hSw); go_simp; (try with_reducible rfl))); (try simp only [Act.put, List.getElem_toArray, List.getElem_cons_zero, List.getElem_cons_succ, List.setIfInBounds_toArray, List.set_cons_zero, List.set_cons_succ])
        refine wpAnyT_take (i := 3) (oi := _) (v := ?_) rfl (by kernel_rfl) (fun _ _ _ h => h) (Or.inl ⟨by kernel_rfl, ?_⟩) (by assumption) ?_; rotate_left; (focus (intro w hSw; (try dsimp only at hSw); go_simp; (try with_reducible rfl))); (try simp only [Act.put, List.getElem_toArray, List.getElem_cons_zero, List.getElem_cons_succ, List.setIfInBounds_toArray, List.set_cons_zero, List.set_cons_succ])
        refine wpAnyT_take (i := 4) (oi := _) (v := ?_) rfl (by kernel_rfl) (fun _ _ _ h => h) (Or.inl ⟨by kernel_rfl, ?_⟩) (by assumption) ?_; rotate_left; (focus (intro w hSw; (try dsimp only at hSw); go_simp; (try with_reducible rfl))); (try simp only [Act.put, List.getElem_toArray, List.getElem_cons_zero, List.getElem_cons_succ, List.setIfInBounds_toArray, List.set_cons_zero, List.set_cons_succ])
        refine wpAnyT_take (i := 5) (oi := _) (v := ?_) rfl (by kernel_rfl) (fun _ _ _ h => h) (Or.inl ⟨by kernel_rfl, ?_⟩) (by assumption) ?_; rotate_left; (focus (intro w hSw; (try dsimp only at hSw); go_simp; (try with_reducible rfl))); (try simp only [Act.put, List.getElem_toArray, List.getElem_cons_zero, List.getElem_cons_succ, List.setIfInBounds_toArray, List.set_cons_zero, List.set_cons_succ])
        refine wpAnyT_take (i := 6) (oi := _) (v := ?_) rfl (by kernel_rfl) (fun _ _ _ h => h) (Or.inl ⟨by kernel_rfl, ?_⟩) (by assumption) ?_; rotate_left; (focus (intro w hSw; (try dsimp only at hSw); go_simp; (try with_reducible rfl))); (try simp only [Act.put, List.getElem_toArray, List.getElem_cons_zero, List.getElem_cons_succ, List.setIfInBounds_toArray, List.set_cons_zero, List.set_cons_succ])
        refine wpAnyT_take (i := 7) (oi := _) (v := ?_) rfl (by kernel_rfl) (fun _ _ _ h => h) (Or.inl ⟨by kernel_rfl, ?_⟩) (by assumption) ?_; rotate_left; (focus (intro w hSw; (try dsimp only at hSw); go_simp; (try with_reducible rfl))); (try simp only [Act.put, List.getElem_toArray, List.getElem_cons_zero, List.getElem_cons_succ, List.setIfInBounds_toArray, List.set_cons_zero, List.set_cons_succ])
        generalize wx.drew = u0 at *
        have HG1 := Lib.hid (HG0.out.below ((Below.refl _ _).alloc (Nat.le_refl _) (.cells #[.int .i64 x.kind, .int .i64 x.time, .slice x.A x.labs.length x.cp, .string x.text, .int .i64 x.value, .bool x.null, .int .i64 x.maker, .int .i64 x.seq, .int .i64 x.place] 37)))
        have HM1x := Lib.hid (HM0.out.alloc (.cells #[.int .i64 x.kind, .int .i64 x.time, .slice x.A x.labs.length x.cp, .string x.text, .int .i64 x.value, .bool x.null, .int .i64 x.maker, .int .i64 x.seq, .int .i64 x.place] 37))
        have HO1 := Lib.hid (Only.alloc HO0.out (.cells #[.int .i64 x.kind, .int .i64 x.time, .slice x.A x.labs.length x.cp, .string x.text, .int .i64 x.value, .bool x.null, .int .i64 x.maker, .int .i64 x.seq, .int .i64 x.place] 37))
        have HB1x := Lib.hid (HB0.out.alloc (.cells #[.int .i64 x.kind, .int .i64 x.time, .slice x.A x.labs.length x.cp, .string x.text, .int .i64 x.value, .bool x.null, .int .i64 x.maker, .int .i64 x.seq, .int .i64 x.place] 37))
        have hrd : Reads (u0.alloc (.cells #[.int .i64 x.kind, .int .i64 x.time, .slice x.A x.labs.length x.cp, .string x.text, .int .i64 x.value, .bool x.null, .int .i64 x.maker, .int .i64 x.seq, .int .i64 x.place] 37)) (u0.heap.size + 1) 9 (some ⟨u0.heap.size, 0, none⟩) 1 [.int .i64 x.kind, .int .i64 x.time, .slice x.A x.labs.length x.cp, .string x.text, .int .i64 x.value, .bool x.null, .int .i64 x.maker, .int .i64 x.seq, .int .i64 x.place] := Reads.made (n := 1) (size := 9) u0 _ 37 rfl
        have hr1 := HR0.out.alloc (.cells #[.int .i64 x.kind, .int .i64 x.time, .slice x.A x.labs.length x.cp, .string x.text, .int .i64 x.value, .bool x.null, .int .i64 x.maker, .int .i64 x.seq, .int .i64 x.place] 37)
        have hwu := HO0.out.size
        clear HG0 HM0 HO0 HB0 HR0 hHeld
        refine wpAnyT_one (i := 8) (by kernel_rfl) rfl (fun K hK => ?_); go_simp
        refine hK.out _ _ (fun _ => ⟨(HS0.out _ HG1.out).1, HSb.out _ HB1x.out⟩) ?_
        clear hK K
        (try simp only [Act.put, List.getElem_toArray, List.getElem_cons_zero, List.getElem_cons_succ, List.setIfInBounds_toArray, List.set_cons_zero, List.set_cons_succ])
        refine wpAnyT_one (i := 9) (by kernel_rfl) rfl (fun K hK => ?_)
        refine step_append_sl _ rfl (.tmp 69) (.tmp 71) _ rfl w1.heap.size 37 _ 9 96 Try.underlying33 Try.infoRow rfl (by omega) _ _ _ rfl hr1 (u0.heap.size + 1) _ 1 1 _ rfl hrd (nine_one x) (by unfold maxLen; omega) (by omega) (by simp; omega) ?_
        intro A5 c5 w5 hc51 hc52 hr5 hbel5 hown5 hgr5 hob5
        have hrowY : ∀ b, (Value.slice yA yl.length yc).ownBlock = some b → w1.heap.size ≤ b := fun b hb => (hr1.lt b hb).1
        have hG5 : (w5.cell? ⟨go, n * 3 + 2, none⟩ = some (.slice yA yl.length yc)) ∧ w5.frozen? ⟨go, n * 3 + 2, none⟩ = false := by
          have h9 := HG1.out.out.kept hgr5 (blk_apart HG1.out.out hr1 (by decide))
          have h8 := HS0.out _ HG1.out
          obtain ⟨h7, h6⟩ := h8
          refine ⟨?_, h9.frozenAt _⟩
          rw [h9.cellAt _ (by omega), ← HG1.out.out.cellAt _ (by omega)]
          exact h7
        obtain ⟨hc5, hf5⟩ := hG5
        have hb5 : Blk w5 gx 37 #[.int .i64 x.kind, .int .i64 x.time, .slice x.A x.labs.length x.cp, .string x.text, .int .i64 x.value, .bool x.null, .int .i64 x.maker, .int .i64 x.seq, .int .i64 x.place] := HB1x.out.grown hgr5 (fun e => by
          exact HNX.out e.symm)
        have hSb5 := HSb.out _ hb5
        have HG5 := Lib.hid (HPu.out _ w5 HG1.out A5 c5 hown5 hgr5 hob5)
        have HM5 := Lib.hid ((HM1x.out.kept hgr5 (fun e => by have := hrowY _ e.symm; omega)).setCell (a := ⟨go, n * 3 + 2, none⟩) (show w.heap.size ≠ go by omega) (.slice A5 (yl.length + 1) c5))
        have HO5 : Hid (Only w.heap.size w1 (w5.setCell ⟨go, n * 3 + 2, none⟩ (.slice A5 (yl.length + 1) c5))) := Lib.hid ((Sp.Only.row HO1.out hgr5 hrowY).setCell (.inr hgo) _)
        have hHeld5 := And.intro hc5 hSb5
        refine hK.out _ _ (fun _ => hHeld5) ?_
        clear hK K hrd hr1 hown5 hgr5 hob5 hrowY hbel5 hr5 hc51 hc52 HG1 HM1x HO1
        (try simp only [Act.put, List.getElem_toArray, List.getElem_cons_zero, List.getElem_cons_succ, List.setIfInBounds_toArray, List.set_cons_zero, List.set_cons_succ])
        refine wpAnyT_one (i := 10) (by kernel_rfl) rfl (fun K hK => ?_); go_simp; refine hK.out _ _ (fun _ => hHeld5) ?_; clear hK K; (try simp only [Act.put, List.getElem_toArray, List.getElem_cons_zero, List.getElem_cons_succ, List.setIfInBounds_toArray, List.set_cons_zero, List.set_cons_succ])
        refine wpAnyT_one (i := 11) (by kernel_rfl) rfl (fun K hK => ?_); go_simp; refine hK.out _ _ (fun _ => hHeld5) ?_; clear hK K; (try simp only [Act.put, List.getElem_toArray, List.getElem_cons_zero, List.getElem_cons_succ, List.setIfInBounds_toArray, List.set_cons_zero, List.set_cons_succ])
        refine wpAnyT_one (i := 12) (by kernel_rfl) rfl (fun K hK => ?_); go_simp
        refine hK.out _ _ (fun h => absurd rfl h) (wpAnyT_done (by kernel_rfl) ?_ _)
        clear hK K
        have HL5 : Hid ((gs'.set n ⟨yw, yp, A5, c5, yl ++ [x]⟩).length = gs'.length) := Lib.hid List.length_set
        have HE5 : Hid ((gs'.set n ⟨yw, yp, A5, c5, yl ++ [x]⟩).map prG = foldG (keyR win by_) (d.take (k + 1))) := Lib.hid (by rw [HSp.out]; exact HS.out A5 c5)
        have HI5 := Lib.hid (HIx.out A5 c5)
        go_wp2
        go_roundw
        case rel => exact ⟨k + 1, m', _, some ⟨go, 0, none⟩, c', by omega, by go_num, by rw [HL5.out], HG5, HM5, HI5, HMLx, HE5, HO5⟩
        case measure => simp [intOf]; omega
    · obtain rfl : k = d.length := by omega
      have HFn : Hid (gs.map prG = foldG (keyR win by_) d) := Lib.hid (by have := HF.out; rwa [List.take_length] at this)
      have hfl := fold_len HF.out
      have HSG := Lib.hid (sortG_calls wr HG.out (by decide) (by omega))
      have hrow : ∀ b, (Value.slice Ag gs.length cg).ownBlock = some b → w1.heap.size ≤ b := fun b hb => (HG.out.out.lt b hb).1
      go_wp2_with fail
      refine HSG.out.mono ?_
      rintro e w9 ⟨rfl, gs9, hl9, hp9, hs9, hG9, hgr9⟩
      have HO9 := Lib.hid (Sp.Only.row HO.out hgr9 hrow)
      have HG9 := Lib.hid hG9
      have HB9 : Hid (Below w.heap.size w w9) := Lib.hid (HB1.out.trans (HO9.out.below (Nat.le_refl _) (by omega)))
      have HE9 : Hid (gs9.map prG = foldR (keyR win by_) ltK d) := Lib.hid (groups_eq swoK.irr swoK.trans totK ((hp9.map prG).trans (by rw [HFn.out])) (List.pairwise_map.2 hs9))
      have HL9 := Lib.hid hl9
      clear hG9 hgr9 hp9 hs9 HSG HFn hfl hrow HG HM HI HML HF HO HRr hl9
      go_wp2
      go_ret
      exact ⟨Ag, cg, gs9, d, by rw [HL9.out]; rfl, HSM.out, fun x hx => own_base ((RowsO.only_ HRO.out HO9.out (by omega)).each x hx) (by omega), HG9.out.low (by omega), HE9.out, HB9.out⟩
end Go.Proofs.Ytennddlihcamnaa.Sp
