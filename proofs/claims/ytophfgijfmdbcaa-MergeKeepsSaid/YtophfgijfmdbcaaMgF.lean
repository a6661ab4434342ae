/- The rows of all lists, in order (chapter 16): the program's answer. -/
import Derived.Test.YtophfgijfmdbcaaProg
import Derived.Test.YtophfgijfmdbcaaMgB
import Derived.Test.YtophfgijfmdbcaaMgE
namespace Go.Proofs.Ytophfgijfmdbcaa.Mg
open Go.RowKit Go.Proofs.Ytophfgijfmdbcaa Go.Proofs.Ytophfgijfmdbcaa.So

def lists (L : List Lst) : List (List Rw) := L.map Lst.l
theorem mAll_lists (L : List Lst) : mAll (lists L) = lAll L := by
  unfold mAll lists lAll
  rw [List.flatMap_map]
  rfl
theorem not_all {L : List Lst} {k : Nat} (hk : k < L.length) (h : risB (lt_ L k).l = false) : mErr (lists L) = 4 ∧ mRows (lists L) = [] := by
  have h1 : (lists L).all risB = false := List.all_eq_false.2 ⟨(lt_ L k).l, List.mem_map.2 ⟨_, lt_mem hk, rfl⟩, by rw [h]; decide⟩
  unfold mErr mRows
  rw [h1]
  exact ⟨rfl, rfl⟩
theorem is_all {L : List Lst} (h : ∀ q, q < L.length → risB (lt_ L q).l = true) : (lists L).all risB = true := by
  rw [List.all_eq_true]
  intro x hx
  obtain ⟨y, hy, rfl⟩ := List.mem_map.1 hx
  obtain ⟨i, hi, rfl⟩ := List.getElem_of_mem hy
  rw [lt_eq hi]
  exact h i hi
theorem ends {L : List Lst} {o : List Rw} (h : ∀ q, q < L.length → risB (lt_ L q).l = true) (hp : o.Perm (lAll L)) (hs : Srt ltR o) : (risB o = false → mErr (lists L) = 18 ∧ mRows (lists L) = []) ∧ (risB o = true → mErr (lists L) = 0 ∧ mRows (lists L) = isort ltR o) := by
  have h1 := merged_ok (all := lAll L) hp hs
  unfold mErr mRows
  rw [is_all h, mAll_lists, ← h1.1]
  refine ⟨fun e => ?_, fun e => ?_⟩
  · rw [e]; exact ⟨rfl, rfl⟩
  · rw [e]; exact ⟨rfl, (h1.2 e).symm⟩
theorem all_srt {L : List Lst} (h : ∀ q, q < L.length → risB (lt_ L q).l = true) : ∀ x ∈ L, Srt ltR x.l := by
  intro x hx
  obtain ⟨i, hi, rfl⟩ := List.getElem_of_mem hx
  rw [lt_eq hi]
  exact (risB_iff.1 (h i hi)).srt
theorem Lists.row_ok {w : World} {B : Nat} {A : Option Addr} {L : List Lst} (h : Lists w B A L) : ∀ x ∈ lAll L, x.ok w B := by
  intro x hx
  obtain ⟨y, hy, hxy⟩ := List.mem_flatMap.1 hx
  exact (h.each y hy).rows.each x hxy
def RetRows (w : World) (L : List Lst) (e : Ending) (w' : World) : Prop := ∃ A' c' d, e = .returned (.tuple #[.slice A' d.length c', .int .i64 (mErr (lists L))]) ∧ SameL d (mRows (lists L)) ∧ RowsO w' w.heap.size (.slice A' d.length c') d ∧ Below w.heap.size w w'

set_option maxRecDepth 100000 in
set_option maxHeartbeats 6400000 in
theorem rows_calls (w : World) {B c : Nat} {A : Option Addr} {L : List Lst} (h : Lists w B A L) (hB : B ≤ w.heap.size) (hn : (lAll L).length ≤ 200) (hL : L.length ≤ 4398046) :
    Calls Try.prog 22 #[.slice A L.length c] w (RetRows w L) := by
  have H1 := Lib.hid h
  have HN := Lib.hid hn
  clear h hn
  go_enter Try.func22, Try.ntmps22
  go_wp2
  go_loopw [9] (fun i wr => ∃ k : Nat, k ≤ L.length ∧ i = .int .i64 (k : Int) ∧ Hid (∀ q, q < k → risB (lt_ L q).l = true) ∧ Below w.heap.size w wr) (fun i _ => L.length - (intOf i).toNat)
  case atStart => exact ⟨0, Nat.zero_le _, rfl, Lib.hid fun q hq => absurd hq (by omega), Below.refl _ _⟩
  case round =>
    obtain ⟨k, hk, rfl, HQ, hbel⟩ := hrel
    have hsz := hbel.size
    by_cases hlt : k < L.length
    · have r1 := H1.out.below (hbel.mono hB)
      obtain ⟨bL, oL, eL, hbL, -⟩ := r1.at_ (by omega)
      have yL := r1.cell_ eL hlt
      have i0 : (0 : Int) ≤ (k : Int) := by omega
      have i9 : (k : Int) < (L.length : Int) := by omega
      have kx := r1.each _ (lt_mem hlt)
      have HR := Lib.hid (rising_calls (c := (lt_ L k).cp) wr kx.rows.reads (by omega) kx.len)
      have HST : Hid (risB (lt_ L k).l = false → mErr (lists L) = 4 ∧ mRows (lists L) = []) := Lib.hid fun h => not_all hlt h
      have HNX : Hid (risB (lt_ L k).l = true → ∀ q, q < k + 1 → risB (lt_ L q).l = true) := Lib.hid fun h q hq => by
        rcases Nat.lt_or_ge q k with h1 | h1
        · exact HQ.out q h1
        · obtain rfl : q = k := by omega
          exact h
      clear r1 kx
      subst eL
      generalize lt_ L k = x at *
      go_wp2_with fail
      refine HR.out.mono ?_
      rintro e w2 ⟨rfl, hb2⟩
      cases hr : risB x.l
      · have HX := Lib.hid (HST.out hr)
        clear HR HST HNX
        clear hr
        go_wp2
        go_ret2
        exact ⟨none, 0, [], by rw [HX.out.1]; rfl, by rw [HX.out.2]; rfl, RowsO.nil _ _, hbel.trans (hb2.mono hsz)⟩
      · have HX := Lib.hid (HNX.out hr)
        clear HR HST HNX
        clear hr
        go_wp2
        go_roundw
        case rel => exact ⟨k + 1, by omega, by go_num, HX, hbel.trans (hb2.mono hsz)⟩
        case measure => simp [intOf]; omega
    · obtain rfl : k = L.length := by omega
      have HM := Lib.hid (merged_calls (c := c) wr (H1.out.below (hbel.mono hB)) (by omega) (Nat.le_trans HN.out (by decide)) hL (all_srt HQ.out))
      clear hlt hk
      go_wp2_with fail
      refine HM.out.mono ?_
      rintro e w2 ⟨A2, c2, o, rfl, hp, hs, ho, hb2⟩
      have hs2 := hb2.size
      have HE := Lib.hid (ends HQ.out hp hs)
      have hol : o.length ≤ 200 := by rw [hp.length_eq]; exact HN.out
      have HRO : Hid (Rows w2 w2.heap.size A2 o) := Lib.hid ⟨Reads.of_own ho, fun x hx => (((H1.out.row_ok x (hp.mem_iff.1 hx)).below (hbel.mono hB)).below (hb2.mono (by omega))).more (by omega)⟩
      have HB2 : Hid (Below w.heap.size w w2) := Lib.hid (hbel.trans (hb2.mono hsz))
      have HRS := Lib.hid (rising_calls (c := c2) w2 HRO.out.reads (Nat.le_refl _) (by omega))
      clear hp hs ho hb2 hbel
      go_wp2_with fail
      refine HRS.out.mono ?_
      rintro e w3 ⟨rfl, hb3⟩
      have hs3 := hb3.size
      cases hr : risB o
      · have HX := Lib.hid (HE.out.1 hr)
        clear HE HRS
        clear hr
        go_wp2
        go_ret2
        exact ⟨none, 0, [], by rw [HX.out.1]; rfl, by rw [HX.out.2]; rfl, RowsO.nil _ _, HB2.out.trans (hb3.mono (by omega))⟩
      · have HX := Lib.hid (HE.out.2 hr)
        clear HE HRS
        clear hr
        have HSO := Lib.hid (sort_calls (c := c2) w3 (HRO.out.below hb3) hs3 hol)
        go_wp2_with fail
        refine HSO.out.mono ?_
        rintro e w4 ⟨A4, c4, d, rfl, hdl, hsm, hro, hb4⟩
        rw [← hdl] at hro
        go_wp2
        go_ret2
        exact ⟨A4, c4, d, by rw [HX.out.1, hdl]; rfl, by rw [HX.out.2]; exact hsm, hro.low (by omega), (HB2.out.trans (hb3.mono (by omega))).trans (hb4.mono (by omega))⟩
end Go.Proofs.Ytophfgijfmdbcaa.Mg
