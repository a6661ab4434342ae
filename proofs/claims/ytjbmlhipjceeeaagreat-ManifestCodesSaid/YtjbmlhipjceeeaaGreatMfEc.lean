/- Encode of the program (chapter 13): its two closures. -/
import Derived.Test.YtjbmlhipjceeeaaGreatMfEb
import Derived.Test.YtjbmlhipjceeeaaGreatMfT
import Derived.Test.YtjbmlhipjceeeaaGreatTail
namespace Go.Proofs.YtjbmlhipjceeeaaGreat.Mf
set_option linter.unusedVariables false
set_option linter.unusedSimpArgs false
open Go.RowKit Go.Proofs.YtjbmlhipjceeeaaGreat

/-- A variable in block gb that holds a slice of bytes that may be written behind. -/
def Bx (w : World) (gb base : Nat) (l : List UInt8) : Prop := ∃ A c, Blk w gb 46 #[.slice A l.length c] ∧ OwnB w base A c l
theorem Bx.below {w w' : World} {gb base : Nat} {l : List UInt8} (h : Bx w gb base l) (hb : Below w.heap.size w w') : Bx w' gb base l := by
  obtain ⟨A, c, h1, h2⟩ := h
  exact ⟨A, c, h1.below hb h1.lt, h2.below hb⟩
/-- What put and text leave. -/
def RetPt (gb base : Nat) (w : World) (l : List UInt8) (e : Ending) (w' : World) : Prop := e = .returned (.tuple #[]) ∧ Bx w' gb base l ∧ Below base w w' ∧ KU (some gb) w w'
set_option maxRecDepth 100000 in
set_option maxHeartbeats 1600000 in
theorem put_calls (w : World) {base gb g c2 : Nat} {l : List UInt8} {L : List Int} (hbx : Bx w gb base l) (hgb : base ≤ gb) (hL : Nums w g L) (h0 : Fits L) (hl : l.length + 10 * L.length ≤ 100000000) (hb : base ≤ w.heap.size) :
    Calls Tryz.prog 39 #[.slice (some ⟨g, 0, none⟩) L.length c2, .pointer (some ⟨gb, 0, none⟩)] w (RetPt gb base w (l ++ us L)) := by
  have H0 := Lib.hid h0
  clear h0
  have hw0 : Hid (Bx w gb base (l ++ us (L.take 0))) := Lib.hid (by simpa [us] using hbx)
  have HE := Lib.hid (us_all L)
  have hgne : Hid (some g ≠ some gb) := Lib.hid (by
    obtain ⟨A, c, h1, _⟩ := hbx
    obtain ⟨cs, h2, _⟩ := hL
    exact fun e => h1.ne_ h2 (by decide) (by injection e with e; exact e.symm))
  clear hbx
  go_enter Tryz.func39, Tryz.ntmps39
  go_wp2
  go_loopw [7] (fun i wr => ∃ j : Nat, j ≤ L.length ∧ i = .int .i64 (j : Int) ∧ Hid (Bx wr gb base (l ++ us (L.take j))) ∧ Hid (Below base w wr) ∧ Hid (KU (some gb) w wr)) (fun i _ => L.length - (intOf i).toNat)
  case atStart => exact ⟨0, Nat.zero_le _, rfl, hw0, Lib.hid (Below.refl _ _), Lib.hid (KU.refl _ _)⟩
  case round =>
    clear hw0
    obtain ⟨j, hj, rfl, HX, HB, HK⟩ := hrel
    by_cases hlt : j < L.length
    · have cj := (hL.keep HK.out hgne.out).cell hlt
      have hx0 := H0.out _ (gt_mem hlt)
      obtain ⟨x, hx⟩ : ∃ x : Nat, gt L j = (x : Int) := ⟨(gt L j).toNat, by omega⟩
      have Hu : Hid (l ++ us (L.take (j + 1)) = (l ++ us (L.take j)) ++ Nu.putU x) := Lib.hid (by rw [us_take hlt hx, List.append_assoc])
      have Hr := Lib.hid (us_room j H0.out)
      rw [hx] at cj hx0
      clear hx
      have hpl := Nu.putU_len10 (n := x) (by omega)
      have hpp := Nu.putU_pos x
      have HP := fun W => Nu.putU_calls x W hpl
      have hwx : IntKind.u64.wrap (x : Int) = (x : Int) := by rw [IntKind.wrap_u64]; omega
      have Hsz : Hid ((l ++ us (L.take j)).length + (Nu.putU x).length ≤ 100000100) := Lib.hid (by rw [List.length_append]; have := Hr.out; omega)
      generalize l ++ us (L.take j) = pre at *
      obtain ⟨A, c, hbk, hob⟩ := HX.out
      have HBk := Lib.hid hbk
      have HOb := Lib.hid hob
      have hc0 : wr.cell? ⟨gb, 0, none⟩ = some (.slice A pre.length c) := hbk.cell 0
      have hgl := hbk.lt
      have hszr : base ≤ wr.heap.size := Nat.le_trans hb HB.out.size
      clear hbk hob HX
      go_wp2_with fail
      have HW0 : Hid (Below wr.heap.size wr wr.drew) := Lib.hid (below_drewN_ (Below.refl _ _) 1)
      refine wp_region_T 5 (fun w' => w'.cell? ⟨gb, 0, none⟩ = some (.slice A pre.length c)) (by kernel_rfl) hc0 (fun hHeld => ?_)
      generalize wr.drew = wd at *
      refine wpAnyT_take (i := 0) (oi := _) (v := ?_) rfl (by kernel_rfl) (fun _ _ _ h => h) (Or.inl ⟨by kernel_rfl, ?_⟩) (by assumption) ?_; rotate_left; (focus (intro w hSw; (try dsimp only at hSw); go_simp; (try with_reducible rfl))); (try simp only [Act.put, List.getElem_toArray, List.getElem_cons_zero, List.setIfInBounds_toArray, List.set_cons_zero, List.set_cons_succ])
      refine wpAnyT_take (i := 1) (oi := _) (v := ?_) rfl (by kernel_rfl) (fun _ _ _ h => h) (Or.inl ⟨by kernel_rfl, ?_⟩) (by assumption) ?_; rotate_left; (focus (intro w hSw; (try dsimp only at hSw); go_simp; (try with_reducible rfl))); (try simp only [Act.put, List.getElem_toArray, List.getElem_cons_zero, List.getElem_cons_succ, List.setIfInBounds_toArray, List.set_cons_zero, List.set_cons_succ])
      refine wpAnyT_take (i := 2) (oi := _) (v := ?_) rfl (by kernel_rfl) (fun _ _ _ h => h) (Or.inl ⟨by kernel_rfl, ?_⟩) (by assumption) ?_; rotate_left; (focus (intro w hSw; (try dsimp only at hSw); go_simp; (try with_reducible rfl))); (try simp only [Act.put, List.getElem_toArray, List.getElem_cons_zero, List.getElem_cons_succ, List.setIfInBounds_toArray, List.set_cons_zero, List.set_cons_succ])
      refine wpAnyT_one (i := 3) (by kernel_rfl) rfl (fun K hK => ?_); go_simp
      refine (HP wd).mono ?_
      rintro e w1 he
      obtain ⟨A1, c1, rfl, hc1, hm1, hb1, hbel1, hown1⟩ := he.opened
      have hb01 : Below wr.heap.size wr w1 := HW0.out.trans (hbel1.mono HW0.out.size)
      have hh1 := (HBk.out.below hb01 hgl).cell 0
      refine hK.out _ _ (fun _ => hh1) ?_
      clear hK K hHeld
      have HB1 := Lib.hid hb01
      have HO1 := Lib.hid (HOb.out.below hb01)
      clear he hown1 hbel1 HP
      (try simp only [Act.put, List.getElem_toArray, List.getElem_cons_zero, List.getElem_cons_succ, List.setIfInBounds_toArray, List.set_cons_zero, List.set_cons_succ])
      refine wpAnyT_one (i := 4) (by kernel_rfl) rfl (fun K hK => ?_)
      refine step_append_B _ rfl (.tmp 11) (.tmp 14) _ rfl base Tryz.underlying46 Nu.Tryz.infoU8 rfl HO1.out rfl hb1 hpp Hsz.out (Nat.le_trans hszr HB1.out.size) ?_
      intro A2 c2 w2 hown2 hbel2 hku2
      have hbk2 : Blk w2 gb 46 #[.slice A pre.length c] := hku2.blk (HBk.out.below hb01 hgl) (by decide) (by simp)
      have hh2 := hbk2.cell 0
      refine hK.out _ _ (fun _ => hh2) ?_
      clear hK K
      have hf2 := hbk2.frozen 0
      have HBx : Hid (Bx (w2.setCell ⟨gb, 0, none⟩ (.slice A2 (pre ++ Nu.putU x).length c2)) gb base (pre ++ Nu.putU x)) := Lib.hid ⟨A2, c2, hbk2.set_ 0 _, OwnB.set (.inl hown2) hbk2 (by decide) 0 _⟩
      have HBl : Hid (Below base w (w2.setCell ⟨gb, 0, none⟩ (.slice A2 (pre ++ Nu.putU x).length c2))) := Lib.hid (((HB.out.trans (hb01.mono hszr)).trans hbel2).setCell hgb _)
      have HKl : Hid (KU (some gb) w (w2.setCell ⟨gb, 0, none⟩ (.slice A2 (pre ++ Nu.putU x).length c2))) := Lib.hid (((HK.out.trans (KU.below hb01)).trans hku2.low).set rfl 0 _)
      rw [← Hu.out] at HBx HBl HKl ⊢
      generalize hnx : l ++ us (L.take (j + 1)) = nx at *
      have Hnx := Lib.hid hnx
      clear hnx Hu
      clear hown2 hbel2 hku2 hbk2 hb1 hb01 HB1 HO1 HBk HOb HB HK
      (try simp only [Act.put, List.getElem_toArray, List.getElem_cons_zero, List.getElem_cons_succ, List.setIfInBounds_toArray, List.set_cons_zero, List.set_cons_succ])
      refine wpAnyT_one (i := 5) (by kernel_rfl) rfl (fun K hK => ?_); go_simp
      refine hK.out _ _ (fun h => absurd rfl h) (wpAnyT_done (by kernel_rfl) ?_ _)
      clear hK K
      go_wp2
      go_roundw
      case rel => exact ⟨j + 1, by omega, by go_num, by rw [Hnx.out]; exact HBx, HBl, HKl⟩
      case measure => simp [intOf]; omega
    obtain rfl : j = L.length := by omega
    rw [HE.out] at HX
    go_wp2
    go_end0
    exact ⟨rfl, HX.out, HB.out, HK.out⟩

abbrev putF (gb : Nat) : Value := .func (.func 39) #[] #[.pointer (some ⟨gb, 0, none⟩)]
theorem load_put (W : World) {gp gb : Nat} (h : W.cell? ⟨gp, 0, none⟩ = some (putF gb)) : (Instr.loadAt 77 (.pointer (some ⟨gp, 0, none⟩))).run Tryz.prog W = .ok (putF gb) W := by simp [go_sem, h]
set_option maxRecDepth 100000 in
set_option maxHeartbeats 1600000 in
theorem text_calls (w : World) {base gb gp : Nat} {l : List UInt8} {s : ByteArray} (hbx : Bx w gb base l) (hp : Blk w gp 77 #[putF gb]) (hgb : base ≤ gb) (hl : l.length + s.size ≤ 90000000) (hb : base ≤ w.heap.size) :
    Calls Tryz.prog 41 #[.string s, .pointer (some ⟨gp, 0, none⟩), .pointer (some ⟨gb, 0, none⟩)] w (RetPt gb base w ((l ++ us [(s.size : Int)]) ++ s.data.toList)) := by
  have hc : w.cell? ⟨gp, 0, none⟩ = some (.func (.func 39) #[] #[.pointer (some ⟨gb, 0, none⟩)]) := hp.cell 0
  have HP := Lib.hid fun W (hW : Below w.heap.size w W) (hN : Nums W w.heap.size [(s.size : Int)]) => put_calls W (c2 := 1) (hbx.below hW) hgb hN (fits_cons (by omega) (by omega) fits_nil) (by simp only [List.length_cons, List.length_nil]; omega) (Nat.le_trans hb hW.size)
  have HL := us_lenR (L := [(s.size : Int)]) (fits_cons (by omega) (by omega) fits_nil) (pre := l) (Nat.le_refl _)
  have HL2 := Lib.hid HL
  generalize hq : (l ++ us [(s.size : Int)]) ++ s.data.toList = q at *
  have Hq := Lib.hid hq
  clear HL hbx hq
  go_enter Tryz.func41, Tryz.ntmps41
  go_wp2_with fail
  have hbd := (Below.refl w.heap.size w).alloc (Nat.le_refl _) (.cells #[.int .i64 (s.size : Int)] 3)
  refine (HP.out _ hbd (nums_built w rfl)).mono ?_
  rintro e w2 ⟨rfl, hbx2, hbel2, hku2⟩
  have hb2 : Below base w w2 := (hbd.mono hb).trans hbel2
  have hk2 : KU (some gb) w w2 := (KU.below hbd).trans hku2
  have hs2 : base ≤ w2.heap.size := Nat.le_trans hb hb2.size
  obtain ⟨A, c, hbk, hob⟩ := hbx2
  have hl2 := HL2.out
  generalize hpre : l ++ us [(s.size : Int)] = pre at *
  have hc2 := hbk.cell 0
  have hgl := hbk.lt
  have HBk := Lib.hid hbk
  have HOb := Lib.hid hob
  clear hbk hob hpre HP hbel2 hku2 hbd
  simp only [List.getElem?_toArray, List.getElem?_cons_zero] at hc2
  go_wp2_with (at_builtin; go_must (refine wpList_append_str _ rfl (.tmp 9) (.tmp 10) _ _ rfl base Tryz.underlying46 Tryz.underlying9 Nu.Tryz.infoU8 rfl HOb.out rfl (by simp only [List.length_cons, List.length_nil] at hl2; omega) hs2 ?_))
  intro A3 c3 w3 hown3 hbel3 hku3
  have hbk3 : Blk w3 gb 46 #[.slice A pre.length c] := hku3.blk HBk.out (by decide) (by simp)
  have hc3 := hbk3.cell 0
  have hf3 := hbk3.frozen 0
  have hlq : pre.length + s.size = q.length := by rw [← Hq.out]; simp
  rw [Hq.out] at hown3
  rw [hlq]
  have HBx : Hid (Bx (w3.setCell ⟨gb, 0, none⟩ (.slice A3 q.length c3)) gb base q) := Lib.hid ⟨A3, c3, hbk3.set_ 0 _, OwnB.set hown3 hbk3 (by decide) 0 _⟩
  have HBl : Hid (Below base w (w3.setCell ⟨gb, 0, none⟩ (.slice A3 q.length c3))) := Lib.hid ((hb2.trans hbel3).setCell hgb _)
  have HKl : Hid (KU (some gb) w (w3.setCell ⟨gb, 0, none⟩ (.slice A3 q.length c3))) := Lib.hid ((hk2.trans hku3.low).set rfl 0 _)
  clear hown3 hbel3 hku3 hbk3 HBk HOb hb2 hk2 HL2 Hq
  go_wp2
  go_end0
  exact ⟨rfl, HBx.out, HBl.out, HKl.out⟩
end Go.Proofs.YtjbmlhipjceeeaaGreat.Mf
