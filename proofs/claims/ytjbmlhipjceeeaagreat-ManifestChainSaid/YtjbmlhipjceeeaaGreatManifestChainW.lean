/- The walk of ManifestChain. -/
import Derived.Test.YtjbmlhipjceeeaaGreatProg
import Derived.Test.YtjbmlhipjceeeaaGreatMfYa
import Derived.Test.YtjbmlhipjceeeaaGreatMfEd
import Derived.Test.YtjbmlhipjceeeaaGreatMfDc
import Derived.Test.YtjbmlhipjceeeaaGreatMfW
import Derived.Test.YtjbmlhipjceeeaaGreatMfZ
import Derived.Deep.Cut
namespace Go.Proofs.YtjbmlhipjceeeaaGreat.lawManifestChain
set_option linter.unusedVariables false
set_option linter.unusedSimpArgs false
open Go.RowKit Go.Proofs.YtjbmlhipjceeeaaGreat Go.Proofs.YtjbmlhipjceeeaaGreat.Mf
open Go.ChangeShapes Go.WideShapes

abbrev Ex := Ed × Pd
def Ex.cs (x : Ex) : List Value := [.slice x.2.AA x.1.add.length x.2.cA, .slice x.2.AD x.1.drop.length x.2.cD, .slice x.2.AM x.1.marks.length x.2.cM, .int .i64 x.1.cut, .int .i64 x.1.fence, .int .i64 x.1.by_.agent, .int .i64 x.1.by_.life, .int .i64 x.1.by_.count]
theorem exs_len (x : Ex) : (Ex.cs x).length = 8 := rfl
set_option maxRecDepth 100000 in
theorem arg_edits {H : Type} {enc : TypeId × Value → H} {W : World} {base : Nat} {v : Value} {d : DataW H} {p : List MemPlace} (h : Arg enc Tryz.prog W base 54 v d p) :
    ∃ (A : Option Addr) (c : Nat) (l : List Ex), v = .slice A l.length c ∧ Reads W W.heap.size 8 A l.length (l.flatMap Ex.cs) ∧ ∀ x ∈ l, Edi W W.heap.size x.1 x.2 := by
  obtain ⟨A0, n0, c0, rfl⟩ := okWide_slice Tryz.underlying54 h.ok
  obtain ⟨A, c, l, e, _, _, _, hr, hg⟩ := (h.part rfl).rows Tryz.underlying54 (size := 8) (by kernel_rfl) (by decide) Ex.cs (fun x => Edi W W.heap.size x.1 x.2) (fun cs y _ h2 => by
    obtain ⟨x, q, hy, he⟩ := part_edit h2
    exact ⟨(x, q), he, hy.symm⟩) (fun _ => rfl)
  exact ⟨A, c, l, e, hr, hg⟩
theorem set6_far {w : World} {g g' : Nat} {t : TypeId} {cs : Array Value} (h : Blk w g' t cs) (hne : g' ≠ g) (v0 v1 v2 v3 v4 v5 : Value) : Blk (set6 w g v0 v1 v2 v3 v4 v5) g' t cs :=
  (set6_only (Only.refl g w) v0 v1 v2 v3 v4 v5).blk h hne
theorem Mow.alloc {w : World} {base : Nat} {m : Md} {p : Pl} (h : Mow w base m p) (o : Obj) : Mow (w.alloc o) base m p := h.below ((Below.refl _ _).alloc (Nat.le_refl _) o)
instance : Inhabited Pd := ⟨⟨none, 0, none, 0, none, 0⟩⟩
set_option maxRecDepth 100000 in
set_option maxHeartbeats 12800000 in
theorem body (w : World) {A : Option Addr} {c : Nat} {l : List Ex} (hr : Reads w w.heap.size 8 A l.length (l.flatMap Ex.cs)) (hg : ∀ x ∈ l, Edi w w.heap.size x.1 x.2) (hm : Sh w) :
    Calls Tryz.prog 7 #[.slice A l.length c] w fun e w' => e = .returned (.bool true) ∧ Below w.heap.size w w' := by
  have HLv := Lib.hid fun W (hW : Below w.heap.size w W) => lives_calls W (hm.below hW hm.lt)
  have HSh := Lib.hid fun W (hW : Below w.heap.size w W) => hm.below hW hm.lt
  have HR := Lib.hid fun W (hW : Below w.heap.size w W) => hr.below hW
  have HG := Lib.hid fun W (hW : Below w.heap.size w W) x (hx : x ∈ l) => (hg x hx).below hW
  clear hr hg hm
  go_enter Tryz.func7, Tryz.ntmps7
  go_wp2_with fail
  refine (HLv.out _ (Below.refl _ _)).mono ?_
  rintro e w1 ⟨rfl, hb1⟩
  by_cases hl : l.length ≤ 40
  · have t1 : decide ((40 : Int) < (l.length : Int)) = false := dcf (by omega)
    have hs1 := hb1.size
    have HB2 : Hid (Below w.heap.size w (w1.alloc (.cells #[.int .i64 0, .int .i64 0, .int .i64 0, .slice none 0 0, .slice none 0 0, .slice none 0 0] 26))) := Lib.hid (hb1.alloc hs1 _)
    have HBm0 : Hid (Blk (w1.alloc (.cells #[.int .i64 0, .int .i64 0, .int .i64 0, .slice none 0 0, .slice none 0 0, .slice none 0 0] 26)) w1.heap.size 26 #[.int .i64 zeroM.gen, .int .i64 zeroM.cut, .int .i64 zeroM.fence, .slice none zeroM.E.length 0, .slice none zeroM.M.length 0, .slice none zeroM.O.length 0]) := Lib.hid (Blk.new _ _ _)
    clear hb1 HLv
    go_wp2
    generalize w1.alloc (.cells #[.int .i64 0, .int .i64 0, .int .i64 0, .slice none 0 0, .slice none 0 0, .slice none 0 0] 26) = w2 at *
    generalize hgm0 : w1.heap.size = gm at *
    have HM0 : Hid (Mow w2 (gm + 1) zeroM nilP) := Lib.hid (Mow.zero _ _)
    have HG0 : Hid (Mf.Good zeroM) := Lib.hid (by unfold Mf.Good; exact ⟨fun x hx => (by cases hx), fun x hx => (by cases hx), by decide, by decide, by decide⟩)
    go_loopw [4, 24] (fun nn i wr => ∃ (j : Nat) (m : Md) (AE AM AO : Option Addr) (cE cM cO : Nat), j ≤ l.length ∧ i = .int .i64 (j : Int) ∧ nn = .int .i64 m.gen ∧ Hid (Mf.Good m) ∧ Hid (Below w.heap.size w wr) ∧ Hid (Blk wr gm 26 #[.int .i64 m.gen, .int .i64 m.cut, .int .i64 m.fence, .slice AE m.E.length cE, .slice AM m.M.length cM, .slice AO m.O.length cO]) ∧ Hid (Mow wr (gm + 1) m ⟨AE, cE, AM, cM, AO, cO⟩)) (fun _ i _ => l.length - (intOf i).toNat)
    case atStart => exact ⟨0, zeroM, none, none, none, 0, 0, 0, Nat.zero_le _, rfl, rfl, HG0, HB2, HBm0, HM0⟩
    case round =>
      clear HG0 HB2 HBm0 HM0
      obtain ⟨j, m, AE, AM, AO, cE, cM, cO, hj, rfl, rfl, HGm, HBw, HBm, HMm⟩ := hrel
      by_cases hlt : j < l.length
      · have hr := HR.out wr HBw.out
        obtain ⟨b, off, rfl, hbB⟩ := row_addr hr (by omega)
        have hx := HG.out wr HBw.out _ (gt_mem hlt)
        obtain ⟨p0, p1, p2, p3, p4, p5, p6, p7⟩ : wr.cell? ⟨b, off + j * 8, none⟩ = some (.slice (gt l j).2.AA (gt l j).1.add.length (gt l j).2.cA) ∧ wr.cell? ⟨b, off + j * 8 + 1, none⟩ = some (.slice (gt l j).2.AD (gt l j).1.drop.length (gt l j).2.cD) ∧ wr.cell? ⟨b, off + j * 8 + 2, none⟩ = some (.slice (gt l j).2.AM (gt l j).1.marks.length (gt l j).2.cM) ∧ wr.cell? ⟨b, off + j * 8 + 3, none⟩ = some (.int .i64 (gt l j).1.cut) ∧ wr.cell? ⟨b, off + j * 8 + 4, none⟩ = some (.int .i64 (gt l j).1.fence) ∧ wr.cell? ⟨b, off + j * 8 + 5, none⟩ = some (.int .i64 (gt l j).1.by_.agent) ∧ wr.cell? ⟨b, off + j * 8 + 6, none⟩ = some (.int .i64 (gt l j).1.by_.life) ∧ wr.cell? ⟨b, off + j * 8 + 7, none⟩ = some (.int .i64 (gt l j).1.by_.count) := ⟨row_cell exs_len hr hlt (j := 0) rfl, row_cell exs_len hr hlt (j := 1) rfl, row_cell exs_len hr hlt (j := 2) rfl, row_cell exs_len hr hlt (j := 3) rfl, row_cell exs_len hr hlt (j := 4) rfl, row_cell exs_len hr hlt (j := 5) rfl, row_cell exs_len hr hlt (j := 6) rfl, row_cell exs_len hr hlt (j := 7) rfl⟩
        have hbw : b < wr.heap.size := by have := HBw.out.size; omega
        generalize gt l j = x at *
        obtain ⟨d, q⟩ := x
        obtain ⟨DA, c1, DD, c2, DM, c3⟩ := q
        dsimp only at *
        have HEd := Lib.hid hx
        have hszr := HBw.out.size
        have hgmr := HBm.out.lt
        have HBa : Hid (Below w.heap.size w (wr.alloc (.cells #[.slice DA d.add.length c1, .slice DD d.drop.length c2, .slice DM d.marks.length c3, .int .i64 d.cut, .int .i64 d.fence, .int .i64 d.by_.agent, .int .i64 d.by_.life, .int .i64 d.by_.count] 31))) := Lib.hid (HBw.out.alloc hszr _)
        have HBma := Lib.hid (HBm.out.alloc (.cells #[.slice DA d.add.length c1, .slice DD d.drop.length c2, .slice DM d.marks.length c3, .int .i64 d.cut, .int .i64 d.fence, .int .i64 d.by_.agent, .int .i64 d.by_.life, .int .i64 d.by_.count] 31))
        have HBe := Lib.hid (Blk.new wr 31 #[.slice DA d.add.length c1, .slice DD d.drop.length c2, .slice DM d.marks.length c3, .int .i64 d.cut, .int .i64 d.fence, .int .i64 d.by_.agent, .int .i64 d.by_.life, .int .i64 d.by_.count])
        have HMa := Lib.hid (Mow.alloc HMm.out (.cells #[.slice DA d.add.length c1, .slice DD d.drop.length c2, .slice DM d.marks.length c3, .int .i64 d.cut, .int .i64 d.fence, .int .i64 d.by_.agent, .int .i64 d.by_.life, .int .i64 d.by_.count] 31))
        have HA := (Below.refl wr.heap.size wr).alloc (Nat.le_refl _) (.cells #[.slice DA d.add.length c1, .slice DD d.drop.length c2, .slice DM d.marks.length c3, .int .i64 d.cut, .int .i64 d.fence, .int .i64 d.by_.agent, .int .i64 d.by_.life, .int .i64 d.by_.count] 31)
        have HEa := Lib.hid ((HEd.out.below (HA.mono hszr)).more (show w.heap.size ≤ (wr.alloc (.cells #[.slice DA d.add.length c1, .slice DD d.drop.length c2, .slice DM d.marks.length c3, .int .i64 d.cut, .int .i64 d.fence, .int .i64 d.by_.agent, .int .i64 d.by_.life, .int .i64 d.by_.count] 31)).heap.size by simp; omega))
        have hsa : (wr.alloc (.cells #[.slice DA d.add.length c1, .slice DD d.drop.length c2, .slice DM d.marks.length c3, .int .i64 d.cut, .int .i64 d.fence, .int .i64 d.by_.agent, .int .i64 d.by_.life, .int .i64 d.by_.count] 31)).heap.size = wr.heap.size + 1 := by simp
        clear hx hr hbB HEd HA HBm HMm HBw
        go_wp2_with fail
        clear p0 p1 p2 p3 p4 p5 p6 p7
        generalize wr.alloc (.cells #[.slice DA d.add.length c1, .slice DD d.drop.length c2, .slice DM d.marks.length c3, .int .i64 d.cut, .int .i64 d.fence, .int .i64 d.by_.agent, .int .i64 d.by_.life, .int .i64 d.by_.count] 31) = wa at *
        generalize hge0 : wr.heap.size = ge at *
        have HFd := Lib.hid (fewD_calls wa HEa.out (Nat.le_refl _))
        cases hfd : fewD d
        · rw [hfd] at HFd
          refine HFd.out.mono ?_
          rintro e wb ⟨rfl, hbb⟩
          have HBf := Lib.hid (HBa.out.trans (hbb.mono HBa.out.size))
          clear hbb HFd hfd
          go_wp2
          go_ret
          exact ⟨rfl, HBf.out⟩
        rw [hfd] at HFd
        have HSD : Hid (Short d.add) := Lib.hid fun x hx => by have := (fewD_f hfd).2.2.2 x hx; omega
        clear hfd
        refine HFd.out.mono ?_
        rintro e wb ⟨rfl, hbb⟩
        have hsb := hbb.size
        have HBb := Lib.hid (HBa.out.trans (hbb.mono HBa.out.size))
        have HBmb := Lib.hid (HBma.out.below hbb HBma.out.lt)
        have HBeb := Lib.hid (HBe.out.below hbb HBe.out.lt)
        have HMb := Lib.hid (HMa.out.below hbb)
        have HEb := Lib.hid ((HEa.out.below hbb).more hsb)
        clear hbb HBa HBma HBe HMa HEa HFd
        obtain ⟨y0, y1, y2, y3, y4, y5⟩ : wb.cell? ⟨gm, 0, none⟩ = some (.int .i64 m.gen) ∧ wb.cell? ⟨gm, 1, none⟩ = some (.int .i64 m.cut) ∧ wb.cell? ⟨gm, 2, none⟩ = some (.int .i64 m.fence) ∧ wb.cell? ⟨gm, 3, none⟩ = some (.slice AE m.E.length cE) ∧ wb.cell? ⟨gm, 4, none⟩ = some (.slice AM m.M.length cM) ∧ wb.cell? ⟨gm, 5, none⟩ = some (.slice AO m.O.length cO) := ⟨HBmb.out.cell 0, HBmb.out.cell 1, HBmb.out.cell 2, HBmb.out.cell 3, HBmb.out.cell 4, HBmb.out.cell 5⟩
        obtain ⟨z0, z1, z2, z3, z4, z5, z6, z7⟩ : wb.cell? ⟨ge, 0, none⟩ = some (.slice DA d.add.length c1) ∧ wb.cell? ⟨ge, 1, none⟩ = some (.slice DD d.drop.length c2) ∧ wb.cell? ⟨ge, 2, none⟩ = some (.slice DM d.marks.length c3) ∧ wb.cell? ⟨ge, 3, none⟩ = some (.int .i64 d.cut) ∧ wb.cell? ⟨ge, 4, none⟩ = some (.int .i64 d.fence) ∧ wb.cell? ⟨ge, 5, none⟩ = some (.int .i64 d.by_.agent) ∧ wb.cell? ⟨ge, 6, none⟩ = some (.int .i64 d.by_.life) ∧ wb.cell? ⟨ge, 7, none⟩ = some (.int .i64 d.by_.count) := ⟨HBeb.out.cell 0, HBeb.out.cell 1, HBeb.out.cell 2, HBeb.out.cell 3, HBeb.out.cell 4, HBeb.out.cell 5, HBeb.out.cell 6, HBeb.out.cell 7⟩
        have hAp := apply_calls wb (HMb.out.good HGm.out) HEb.out (Nat.le_refl _) HGm.out.2.1 HSD.out (HSh.out _ HBb.out)
        have HokE := Lib.hid HEb.out.ok
        go_wp2_with fail
        clear y0 y1 y2 y3 y4 y5 z0 z1 z2 z3 z4 z5 z6 z7
        by_cases h0 : appE m d = 0
        · rw [appM_ok h0, h0] at hAp
          have HAp := Lib.hid hAp
          have hF := (appE_zero.1 h0).1.f
          have hl0 := (appE_zero.1 h0).2
          have hXR := right_iff.2 (hF.right hl0)
          have HXG := Lib.hid (app_good h0 HGm.out.1 HGm.out.2.1 HokE.out HSD.out)
          have HX0 : Hid ((appl m d).gen = m.gen + 1) := Lib.hid rfl
          have HX3 := Lib.hid (rise_did hF)
          have hgn := hF.r.gen
          have n1 : IntKind.i64.wrap (m.gen + 1) = m.gen + 1 := IntWalk.i64_in _ (by omega)
          have f1 : ((appl m d).gen != m.gen + 1) = false := nef rfl
          have HED : Hid (encD (appl m d) = encB (appl m d) ∧ encEr (appl m d) = 0) := Lib.hid ⟨by unfold encD; rw [if_pos hXR], by unfold encEr; rw [if_pos hXR]⟩
          have HDE := Lib.hid (decB_encB (right_in hXR HXG.out.1) hXR)
          have HLe := Lib.hid (encD_len (m := appl m d) HXG.out.1)
          have HXR := Lib.hid hXR
          clear hAp hF hl0 hXR h0 hgn HEb HokE HSD HMb
          generalize appl m d = X at *
          refine HAp.out.mono ?_
          rintro e wc ⟨px, rfl, hmo, hbc⟩
          obtain ⟨XE, xE, XM, xM, XO, xO⟩ := px
          have hsc := hbc.size
          have HBc := Lib.hid (HBb.out.trans (hbc.mono HBb.out.size))
          have HBmc := Lib.hid ((HBmb.out.below hbc HBmb.out.lt).alloc (.cells #[.int .i64 X.gen, .int .i64 X.cut, .int .i64 X.fence, .slice XE X.E.length xE, .slice XM X.M.length xM, .slice XO X.O.length xO] 26))
          have HBec := Lib.hid ((HBeb.out.below hbc HBeb.out.lt).alloc (.cells #[.int .i64 X.gen, .int .i64 X.cut, .int .i64 X.fence, .slice XE X.E.length xE, .slice XM X.M.length xM, .slice XO X.O.length xO] 26))
          have HBd := Lib.hid (HBc.out.alloc (by have := HBc.out.size; omega) (.cells #[.int .i64 X.gen, .int .i64 X.cut, .int .i64 X.fence, .slice XE X.E.length xE, .slice XM X.M.length xM, .slice XO X.O.length xO] 26))
          have HBxd := Lib.hid (Blk.new wc 26 #[.int .i64 X.gen, .int .i64 X.cut, .int .i64 X.fence, .slice XE X.E.length xE, .slice XM X.M.length xM, .slice XO X.O.length xO])
          have hgmb := HBmb.out.lt
          have hgeb := HBeb.out.lt
          have HMd := Lib.hid (Mow.alloc (hmo.mono (show gm + 1 ≤ wb.heap.size by omega)) (.cells #[.int .i64 X.gen, .int .i64 X.cut, .int .i64 X.fence, .slice XE X.E.length xE, .slice XM X.M.length xM, .slice XO X.O.length xO] 26))
          have hgegm : ge ≠ gm := by omega
          have hgwm : w.heap.size ≤ gm := by omega
          have hbm := HBmc.out
          have hsd : wc.heap.size < (wc.alloc (.cells #[.int .i64 X.gen, .int .i64 X.cut, .int .i64 X.fence, .slice XE X.E.length xE, .slice XM X.M.length xM, .slice XO X.O.length xO] 26)).heap.size := by simp
          clear hmo hbc HAp HBmb HBeb HBb HBc
          go_upto_region 11 with fail
          generalize wc.alloc (.cells #[.int .i64 X.gen, .int .i64 X.cut, .int .i64 X.fence, .slice XE X.E.length xE, .slice XM X.M.length xM, .slice XO X.O.length xO] 26) = wd at *
          generalize hgx0 : wc.heap.size = gx at *
          obtain ⟨y0, y1, y2, y3, y4, y5⟩ : wd.cell? ⟨gx, 0, none⟩ = some (.int .i64 X.gen) ∧ wd.cell? ⟨gx, 1, none⟩ = some (.int .i64 X.cut) ∧ wd.cell? ⟨gx, 2, none⟩ = some (.int .i64 X.fence) ∧ wd.cell? ⟨gx, 3, none⟩ = some (.slice XE X.E.length xE) ∧ wd.cell? ⟨gx, 4, none⟩ = some (.slice XM X.M.length xM) ∧ wd.cell? ⟨gx, 5, none⟩ = some (.slice XO X.O.length xO) := ⟨HBxd.out.cell 0, HBxd.out.cell 1, HBxd.out.cell 2, HBxd.out.cell 3, HBxd.out.cell 4, HBxd.out.cell 5⟩
          obtain ⟨z0, z1, z2, z3, z4, z5⟩ : wd.cell? ⟨gm, 0, none⟩ = some (.int .i64 m.gen) ∧ wd.cell? ⟨gm, 1, none⟩ = some (.int .i64 m.cut) ∧ wd.cell? ⟨gm, 2, none⟩ = some (.int .i64 m.fence) ∧ wd.cell? ⟨gm, 3, none⟩ = some (.slice AE m.E.length cE) ∧ wd.cell? ⟨gm, 4, none⟩ = some (.slice AM m.M.length cM) ∧ wd.cell? ⟨gm, 5, none⟩ = some (.slice AO m.O.length cO) := ⟨HBmc.out.cell 0, HBmc.out.cell 1, HBmc.out.cell 2, HBmc.out.cell 3, HBmc.out.cell 4, HBmc.out.cell 5⟩
          obtain ⟨f0, f1, f2, f3, f4, f5⟩ : wd.frozen? ⟨gm, 0, none⟩ = false ∧ wd.frozen? ⟨gm, 1, none⟩ = false ∧ wd.frozen? ⟨gm, 2, none⟩ = false ∧ wd.frozen? ⟨gm, 3, none⟩ = false ∧ wd.frozen? ⟨gm, 4, none⟩ = false ∧ wd.frozen? ⟨gm, 5, none⟩ = false := ⟨hbm.frozen 0, hbm.frozen 1, hbm.frozen 2, hbm.frozen 3, hbm.frozen 4, hbm.frozen 5⟩
          have HBe := Lib.hid (set6_far HBec.out hgegm (.int .i64 X.gen) (.int .i64 X.cut) (.int .i64 X.fence) (.slice XE X.E.length xE) (.slice XM X.M.length xM) (.slice XO X.O.length xO))
          have HBme : Hid (Blk (set6 wd gm (.int .i64 X.gen) (.int .i64 X.cut) (.int .i64 X.fence) (.slice XE X.E.length xE) (.slice XM X.M.length xM) (.slice XO X.O.length xO)) gm 26 #[.int .i64 X.gen, .int .i64 X.cut, .int .i64 X.fence, .slice XE X.E.length xE, .slice XM X.M.length xM, .slice XO X.O.length xO]) := Lib.hid (set6_blk HBmc.out _ _ _ _ _ _)
          have HBwe := Lib.hid (set6_below HBd.out hgwm (.int .i64 X.gen) (.int .i64 X.cut) (.int .i64 X.fence) (.slice XE X.E.length xE) (.slice XM X.M.length xM) (.slice XO X.O.length xO))
          have HMe := Lib.hid (Mow.set6 HMd.out (Nat.lt_succ_self gm) (.int .i64 X.gen) (.int .i64 X.cut) (.int .i64 X.fence) (.slice XE X.E.length xE) (.slice XM X.M.length xM) (.slice XO X.O.length xO))
          have hset : ((((((wd.setCell ⟨gm, 0, none⟩ (.int .i64 X.gen)).setCell ⟨gm, 1, none⟩ (.int .i64 X.cut)).setCell ⟨gm, 2, none⟩ (.int .i64 X.fence)).setCell ⟨gm, 3, none⟩ (.slice XE X.E.length xE)).setCell ⟨gm, 4, none⟩ (.slice XM X.M.length xM)).setCell ⟨gm, 5, none⟩ (.slice XO X.O.length xO)) = set6 wd gm (.int .i64 X.gen) (.int .i64 X.cut) (.int .i64 X.fence) (.slice XE X.E.length xE) (.slice XM X.M.length xM) (.slice XO X.O.length xO) := rfl
          clear HBxd HBmc HBec HBd HMd hbm
          go_upto_region 13 with fail
          clear hset y0 y1 y2 y3 y4 y5 z0 z1 z2 z3 z4 z5 f0 f1 f2 f3 f4 f5
          generalize set6 wd gm (.int .i64 X.gen) (.int .i64 X.cut) (.int .i64 X.fence) (.slice XE X.E.length xE) (.slice XM X.M.length xM) (.slice XO X.O.length xO) = we at *
          obtain ⟨y0, y1, y2, y3, y4, y5⟩ : we.cell? ⟨gm, 0, none⟩ = some (.int .i64 X.gen) ∧ we.cell? ⟨gm, 1, none⟩ = some (.int .i64 X.cut) ∧ we.cell? ⟨gm, 2, none⟩ = some (.int .i64 X.fence) ∧ we.cell? ⟨gm, 3, none⟩ = some (.slice XE X.E.length xE) ∧ we.cell? ⟨gm, 4, none⟩ = some (.slice XM X.M.length xM) ∧ we.cell? ⟨gm, 5, none⟩ = some (.slice XO X.O.length xO) := ⟨HBme.out.cell 0, HBme.out.cell 1, HBme.out.cell 2, HBme.out.cell 3, HBme.out.cell 4, HBme.out.cell 5⟩
          go_wp2_with fail
          clear y0 y1 y2 y3 y4 y5
          refine (enc_calls we (HMe.out.good HXG.out) (Nat.le_refl _) HXG.out.2.1 (HSh.out _ HBwe.out)).mono ?_
          rintro e wf ⟨Ab, cb, rfl, hown, hbf⟩
          rw [HED.out.1] at hown HLe ⊢
          rw [HED.out.2]
          have hcap := own_capn hown
          have hby := own_bytes hown
          have HBwf := Lib.hid (HBwe.out.trans (hbf.mono HBwe.out.size))
          have HBmf := Lib.hid (HBme.out.below hbf HBme.out.lt)
          have HBef := Lib.hid (HBe.out.below hbf HBe.out.lt)
          have HMf := Lib.hid (HMe.out.below hbf)
          have HDc := Lib.hid (dec_calls wf hby (Nat.le_refl _) hcap (by have := HLe.out; omega) (HSh.out _ HBwf.out))
          rw [HDE.out] at HDc
          clear hown hby hbf HBwe HBme HBe HMe hcap HDE HLe HED
          generalize encB X = bx at *
          go_wp2_with fail
          refine HDc.out.mono ?_
          rintro e wg ⟨py, rfl, hmy, hbg⟩
          obtain ⟨YE, yE, YM, yM, YO, yO⟩ := py
          have hsg := HBmf.out.lt
          have hsg2 := hbg.size
          have hse := HBef.out.lt
          have HBwh := Lib.hid ((HBwf.out.trans (hbg.mono HBwf.out.size)).alloc (by have := HBwf.out.size; omega) (.cells #[.int .i64 X.gen, .int .i64 X.cut, .int .i64 X.fence, .slice YE X.E.length yE, .slice YM X.M.length yM, .slice YO X.O.length yO] 26))
          have HBmh := Lib.hid ((HBmf.out.below hbg HBmf.out.lt).alloc (.cells #[.int .i64 X.gen, .int .i64 X.cut, .int .i64 X.fence, .slice YE X.E.length yE, .slice YM X.M.length yM, .slice YO X.O.length yO] 26))
          have HBeh := Lib.hid ((HBef.out.below hbg HBef.out.lt).alloc (.cells #[.int .i64 X.gen, .int .i64 X.cut, .int .i64 X.fence, .slice YE X.E.length yE, .slice YM X.M.length yM, .slice YO X.O.length yO] 26))
          have HMh := Lib.hid (Mow.alloc (HMf.out.below hbg) (.cells #[.int .i64 X.gen, .int .i64 X.cut, .int .i64 X.fence, .slice YE X.E.length yE, .slice YM X.M.length yM, .slice YO X.O.length yO] 26))
          have HMyh := Lib.hid (Mow.alloc hmy (.cells #[.int .i64 X.gen, .int .i64 X.cut, .int .i64 X.fence, .slice YE X.E.length yE, .slice YM X.M.length yM, .slice YO X.O.length yO] 26))
          have HByh := Lib.hid (Blk.new wg 26 #[.int .i64 X.gen, .int .i64 X.cut, .int .i64 X.fence, .slice YE X.E.length yE, .slice YM X.M.length yM, .slice YO X.O.length yO])
          have hbmg := HBmf.out.below hbg HBmf.out.lt
          obtain ⟨y0, y1, y2, y3, y4, y5⟩ : wg.cell? ⟨gm, 0, none⟩ = some (.int .i64 X.gen) ∧ wg.cell? ⟨gm, 1, none⟩ = some (.int .i64 X.cut) ∧ wg.cell? ⟨gm, 2, none⟩ = some (.int .i64 X.fence) ∧ wg.cell? ⟨gm, 3, none⟩ = some (.slice XE X.E.length xE) ∧ wg.cell? ⟨gm, 4, none⟩ = some (.slice XM X.M.length xM) ∧ wg.cell? ⟨gm, 5, none⟩ = some (.slice XO X.O.length xO) := ⟨hbmg.cell 0, hbmg.cell 1, hbmg.cell 2, hbmg.cell 3, hbmg.cell 4, hbmg.cell 5⟩
          have hgmg : gm < wg.heap.size := by omega
          clear HBwf HBmf HBef HMf hmy hbg HDc hbmg
          go_wp2_with fail
          clear y0 y1 y2 y3 y4 y5
          generalize wg.alloc (.cells #[.int .i64 X.gen, .int .i64 X.cut, .int .i64 X.fence, .slice YE X.E.length yE, .slice YM X.M.length yM, .slice YO X.O.length yO] 26) = wh at *
          generalize hgy0 : wg.heap.size = gy at *
          have HRt := Lib.hid (right_calls wh (HMh.out.good HXG.out) (Nat.le_refl _) HXG.out.2.1 (HSh.out _ HBwh.out))
          rw [HXR.out] at HRt
          refine HRt.out.mono ?_
          rintro e wi ⟨rfl, hbi⟩
          have HBwi := Lib.hid (HBwh.out.trans (hbi.mono HBwh.out.size))
          have HBmi := Lib.hid (HBmh.out.below hbi HBmh.out.lt)
          have HBei := Lib.hid (HBeh.out.below hbi HBeh.out.lt)
          have HMi := Lib.hid (HMh.out.below hbi)
          have HMyi := Lib.hid (HMyh.out.below hbi)
          have HByi := Lib.hid (HByh.out.below hbi HByh.out.lt)
          have HEQ := Lib.hid (same_self X)
          obtain ⟨y0, y1, y2, y3, y4, y5⟩ : wi.cell? ⟨gm, 0, none⟩ = some (.int .i64 X.gen) ∧ wi.cell? ⟨gm, 1, none⟩ = some (.int .i64 X.cut) ∧ wi.cell? ⟨gm, 2, none⟩ = some (.int .i64 X.fence) ∧ wi.cell? ⟨gm, 3, none⟩ = some (.slice XE X.E.length xE) ∧ wi.cell? ⟨gm, 4, none⟩ = some (.slice XM X.M.length xM) ∧ wi.cell? ⟨gm, 5, none⟩ = some (.slice XO X.O.length xO) := ⟨HBmi.out.cell 0, HBmi.out.cell 1, HBmi.out.cell 2, HBmi.out.cell 3, HBmi.out.cell 4, HBmi.out.cell 5⟩
          obtain ⟨z0, z1, z2, z3, z4, z5⟩ : wi.cell? ⟨gy, 0, none⟩ = some (.int .i64 X.gen) ∧ wi.cell? ⟨gy, 1, none⟩ = some (.int .i64 X.cut) ∧ wi.cell? ⟨gy, 2, none⟩ = some (.int .i64 X.fence) ∧ wi.cell? ⟨gy, 3, none⟩ = some (.slice YE X.E.length yE) ∧ wi.cell? ⟨gy, 4, none⟩ = some (.slice YM X.M.length yM) ∧ wi.cell? ⟨gy, 5, none⟩ = some (.slice YO X.O.length yO) := ⟨HByi.out.cell 0, HByi.out.cell 1, HByi.out.cell 2, HByi.out.cell 3, HByi.out.cell 4, HByi.out.cell 5⟩
          clear hbi HRt HBwh HBmh HBeh HMh HMyh HByh
          go_wp2_with fail
          clear y0 y1 y2 y3 y4 y5 z0 z1 z2 z3 z4 z5
          refine (sameM_calls wi (HMi.out.good HXG.out) (HMyi.out.good HXG.out) (Nat.le_refl _) (Nat.le_refl _)).mono ?_
          rintro e wj ⟨rfl, hbj⟩
          rw [HEQ.out]
          have HBwj := Lib.hid (HBwi.out.trans (hbj.mono HBwi.out.size))
          have HBmj := Lib.hid (HBmi.out.below hbj HBmi.out.lt)
          have HBej := Lib.hid (HBei.out.below hbj HBei.out.lt)
          have HMj := Lib.hid (HMi.out.below hbj)
          obtain ⟨y0, y1, y2, y3, y4, y5⟩ : wj.cell? ⟨gm, 0, none⟩ = some (.int .i64 X.gen) ∧ wj.cell? ⟨gm, 1, none⟩ = some (.int .i64 X.cut) ∧ wj.cell? ⟨gm, 2, none⟩ = some (.int .i64 X.fence) ∧ wj.cell? ⟨gm, 3, none⟩ = some (.slice XE X.E.length xE) ∧ wj.cell? ⟨gm, 4, none⟩ = some (.slice XM X.M.length xM) ∧ wj.cell? ⟨gm, 5, none⟩ = some (.slice XO X.O.length xO) := ⟨HBmj.out.cell 0, HBmj.out.cell 1, HBmj.out.cell 2, HBmj.out.cell 3, HBmj.out.cell 4, HBmj.out.cell 5⟩
          obtain ⟨z0, z1, z2, z3, z4, z5, z6, z7⟩ : wj.cell? ⟨ge, 0, none⟩ = some (.slice DA d.add.length c1) ∧ wj.cell? ⟨ge, 1, none⟩ = some (.slice DD d.drop.length c2) ∧ wj.cell? ⟨ge, 2, none⟩ = some (.slice DM d.marks.length c3) ∧ wj.cell? ⟨ge, 3, none⟩ = some (.int .i64 d.cut) ∧ wj.cell? ⟨ge, 4, none⟩ = some (.int .i64 d.fence) ∧ wj.cell? ⟨ge, 5, none⟩ = some (.int .i64 d.by_.agent) ∧ wj.cell? ⟨ge, 6, none⟩ = some (.int .i64 d.by_.life) ∧ wj.cell? ⟨ge, 7, none⟩ = some (.int .i64 d.by_.count) := ⟨HBej.out.cell 0, HBej.out.cell 1, HBej.out.cell 2, HBej.out.cell 3, HBej.out.cell 4, HBej.out.cell 5, HBej.out.cell 6, HBej.out.cell 7⟩
          have HDi := Lib.hid (did_of wj (HMj.out.good HXG.out) (Nat.le_refl _) d.by_)
          rw [HX3.out] at HDi
          clear hbj HBwi HBmi HBei HMi HMyi HByi HEQ
          go_wp2_with fail
          clear y0 y1 y2 y3 y4 y5 z0 z1 z2 z3 z4 z5 z6 z7
          refine HDi.out.mono ?_
          rintro e wk ⟨rfl, hbk⟩
          have HBwk := Lib.hid (HBwj.out.trans (hbk.mono HBwj.out.size))
          have HBmk := Lib.hid (HBmj.out.below hbk HBmj.out.lt)
          have HMk := Lib.hid (HMj.out.below hbk)
          clear hbk HDi HBwj HBmj HBej HMj
          go_wp2
          go_roundw
          case rel => exact ⟨j + 1, X, XE, XM, XO, xE, xM, xO, by omega, by go_num, by rw [HX0.out], HXG, HBwk, HBmk, HMk⟩
          case measure => simp [intOf]; omega
        · have hq0 : (appE m d != 0) = true := net h0
          have HAp := Lib.hid hAp
          clear hAp
          generalize appM m d = X at *
          generalize appE m d = er at *
          refine HAp.out.mono ?_
          rintro e wc ⟨px, rfl, hmo, hbc⟩
          obtain ⟨XE, xE, XM, xM, XO, xO⟩ := px
          have hsc := hbc.size
          have hsw := HBb.out.size
          have HBd := Lib.hid ((HBb.out.trans (hbc.mono HBb.out.size)).alloc (by omega) (.cells #[.int .i64 X.gen, .int .i64 X.cut, .int .i64 X.fence, .slice XE X.E.length xE, .slice XM X.M.length xM, .slice XO X.O.length xO] 26))
          have HBmd := Lib.hid ((HBmb.out.below hbc HBmb.out.lt).alloc (.cells #[.int .i64 X.gen, .int .i64 X.cut, .int .i64 X.fence, .slice XE X.E.length xE, .slice XM X.M.length xM, .slice XO X.O.length xO] 26))
          have HMd := Lib.hid (Mow.alloc (HMb.out.below hbc) (.cells #[.int .i64 X.gen, .int .i64 X.cut, .int .i64 X.fence, .slice XE X.E.length xE, .slice XM X.M.length xM, .slice XO X.O.length xO] 26))
          clear hmo hbc HAp h0 HBb HBmb HBeb HMb HEb HokE
          go_wp2
          go_roundw
          case rel => exact ⟨j + 1, m, AE, AM, AO, cE, cM, cO, by omega, by go_num, rfl, HGm, HBd, HBmd, HMd⟩
          case measure => simp [intOf]; omega
      obtain rfl : j = l.length := by omega
      have HBf := Lib.hid HBw.out
      clear HGm HBm HMm
      go_wp2
      go_ret
      exact ⟨rfl, HBf.out⟩
  · have t1 : decide ((40 : Int) < (l.length : Int)) = true := dct (by omega)
    clear hl
    go_wp2_with fail
    refine (HLv.out _ hb1).mono ?_
    rintro e w2 ⟨rfl, hb2⟩
    go_wp2
    go_ret
    exact ⟨rfl, hb1.trans (hb2.mono hb1.size)⟩
theorem walk {H : Type} {enc : TypeId × Value → H} {W : World} {base : Nat} {v0 : Value} {d0 : DataW H} {p0 : List MemPlace} (hsh : W.ShapedOpen Tryz.prog) (g0 : Arg enc Tryz.prog W base 54 v0 d0 p0) :
    Calls Tryz.prog 7 #[v0] W fun e w' => e = .returned (.bool true) ∧ Below W.heap.size W w' := by
  obtain ⟨A, c, l, rfl, hr, hg⟩ := arg_edits g0
  exact body W hr hg (var0 hsh)
end Go.Proofs.YtjbmlhipjceeeaaGreat.lawManifestChain
