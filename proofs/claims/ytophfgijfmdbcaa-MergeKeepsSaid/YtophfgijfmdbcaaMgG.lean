/- The rows of all lists, in order (chapter 16): the document's answer; few enough lists. -/
import Derived.Test.YtophfgijfmdbcaaProg
import Derived.Test.YtophfgijfmdbcaaMgF
namespace Go.Proofs.Ytophfgijfmdbcaa.Mg
open Go.RowKit Go.Proofs.Ytophfgijfmdbcaa Go.Proofs.Ytophfgijfmdbcaa.So

theorem rends {L : List Lst} (h : ∀ q, q < L.length → risB (lt_ L q).l = true) : (risB (isort ltR (lAll L)) = false → mErr (lists L) = 18 ∧ mRows (lists L) = []) ∧ (risB (isort ltR (lAll L)) = true → mErr (lists L) = 0 ∧ mRows (lists L) = isort ltR (lAll L)) := by
  unfold mErr mRows
  rw [is_all h, mAll_lists]
  refine ⟨fun e => ?_, fun e => ?_⟩ <;> rw [e] <;> exact ⟨rfl, rfl⟩
def RetRef (w : World) (L : List Lst) (e : Ending) (w' : World) : Prop := ∃ A' c' d, e = .returned (.tuple #[.slice A' d.length c', .int .i64 (mErr (lists L))]) ∧ d = mRows (lists L) ∧ w'.ownsRow w.heap.size 58 9 (.slice A' d.length c') d.length (Sr.flat Rw.c d) ∧ Below w.heap.size w w'

set_option maxRecDepth 100000 in
set_option maxHeartbeats 6400000 in
theorem refRows_calls (w : World) {B c : Nat} {A : Option Addr} {L : List Lst} (h : Lists w B A L) (hB : B ≤ w.heap.size) (hn : (lAll L).length ≤ 200) (hL : L.length ≤ 4398046) :
    Calls Try.prog 23 #[.slice A L.length c] w (RetRef w L) := by
  have H1 := Lib.hid h
  have HN := Lib.hid hn
  clear h hn
  go_enter Try.func23, Try.ntmps23
  go_wp2
  go_loopw [4, 11] (fun v i wr => ∃ (k : Nat) (A' : Option Addr) (c' : Nat), k ≤ L.length ∧ i = .int .i64 (k : Int) ∧ Hid (∀ q, q < k → risB (lt_ L q).l = true) ∧ v = .slice A' (lAll (L.take k)).length c' ∧ Hid (wr.ownsRow w.heap.size 58 9 (.slice A' (lAll (L.take k)).length c') (lAll (L.take k)).length (Sr.flat Rw.c (lAll (L.take k)))) ∧ Below w.heap.size w wr) (fun _ i _ => L.length - (intOf i).toNat)
  case atStart => exact ⟨0, some ⟨w.heap.size, 0, none⟩, 0, Nat.zero_le _, rfl, Lib.hid fun q hq => absurd hq (by omega), rfl, Lib.hid (World.ownsRow_made w #[] 0 (Nat.le_refl _) (Nat.zero_le _) rfl), (Below.refl _ _).alloc (Nat.le_refl _) _⟩
  case round =>
    obtain ⟨k, A', c', hk, rfl, HQ, rfl, HO, hbel⟩ := hrel
    have hsz := hbel.size
    by_cases hlt : k < L.length
    · have r1 := H1.out.below (hbel.mono hB)
      obtain ⟨bL, oL, eL, hbL, -⟩ := r1.at_ (by omega)
      have yL := r1.cell_ eL hlt
      have i0 : (0 : Int) ≤ (k : Int) := by omega
      have i9 : (k : Int) < (L.length : Int) := by omega
      have kx := r1.each _ (lt_mem hlt)
      have HKR := Lib.hid kx.rows.reads
      have HR := Lib.hid (risingR_calls (c := (lt_ L k).cp) wr kx.rows.reads (by omega) kx.len)
      have HST : Hid (risB (lt_ L k).l = false → mErr (lists L) = 4 ∧ mRows (lists L) = []) := Lib.hid fun h => not_all hlt h
      have HNX : Hid (risB (lt_ L k).l = true → ∀ q, q < k + 1 → risB (lt_ L q).l = true) := Lib.hid fun h q hq => by
        rcases Nat.lt_or_ge q k with h1 | h1
        · exact HQ.out q h1
        · obtain rfl : q = k := by omega
          exact h
      have HTK := Lib.hid (lAll_take hlt)
      have HLN : (lAll (L.take k)).length + (lt_ L k).l.length ≤ 200 := by
        rw [← List.length_append, ← lAll_take hlt]; exact Nat.le_trans (lAll_len_le L (k + 1)) HN.out
      clear r1 kx
      subst eL
      generalize lt_ L k = x at *
      obtain ⟨m, hm⟩ : ∃ m, m = (lAll (L.take k)).length := ⟨_, rfl⟩
      have HM := Lib.hid hm
      rw [← hm] at HO HLN ⊢
      generalize lAll (L.take k) = u at *
      clear hm
      go_wp2_with fail
      refine HR.out.mono ?_
      rintro e w2 ⟨rfl, hb2⟩
      have hs2 := hb2.size
      cases hr : risB x.l
      · have HX := Lib.hid (HST.out hr)
        clear HR HST HNX
        clear hr
        go_wp2
        go_ret2
        exact ⟨none, 0, [], by rw [HX.out.1]; rfl, HX.out.2.symm, World.ownsRow_nil _ _ _ _, hbel.trans (hb2.mono hsz)⟩
      · have HX := Lib.hid (HNX.out hr)
        have HO2 := Lib.hid (own_below HO.out hb2)
        have HK2 := Lib.hid (HKR.out.below (hb2.mono (by omega)))
        clear HR HST HNX
        clear hr
        go_wp2_with (at_builtin; go_must (refine wpList_append_sl _ rfl (.tmp 18) (.tmp 19) _ rfl w.heap.size 58 _ 9 96 Try.underlying47 Try.infoRow rfl (by omega) _ _ _ rfl HO2.out B x.A x.l.length x.cp (Sr.flat Rw.c x.l) rfl HK2.out (rflat_one x.l) (by unfold maxLen; omega) (by omega) (by omega) ?_))
        intro A3 c3 w3 hc1 hc2 hrd3 hbel3 hown3 _ _
        have HO3 : Hid (w3.ownsRow w.heap.size 58 9 (.slice A3 (lAll (L.take (k + 1))).length c3) (lAll (L.take (k + 1))).length (Sr.flat Rw.c (lAll (L.take (k + 1))))) := Lib.hid (by
          rw [HTK.out, List.length_append, Sr.flat_app, ← HM.out]; exact hown3)
        have HL3 : Hid (m + x.l.length = (lAll (L.take (k + 1))).length) := Lib.hid (by rw [HTK.out, List.length_append, ← HM.out])
        have HB3 : Hid (Below w.heap.size w w3) := Lib.hid ((hbel.trans (hb2.mono hsz)).trans hbel3)
        clear hrd3 hbel3 hown3 hc1 hc2
        go_wp2
        go_roundw
        case rel => exact ⟨k + 1, A3, c3, by omega, by go_num, HX, by rw [HL3.out], HO3, HB3.out⟩
        case measure => simp [intOf]; omega
    · obtain rfl : k = L.length := by omega
      have HO : Hid (wr.ownsRow w.heap.size 58 9 (.slice A' (lAll L).length c') (lAll L).length (Sr.flat Rw.c (lAll L))) := Lib.hid (by have := HO.out; rw [List.take_length] at this; exact this)
      rw [List.take_length]
      have HE := Lib.hid (rends HQ.out)
      have HS := Lib.hid (refSort_calls (c := c') wr (Reads.of_own HO.out) (Nat.le_refl _) HN.out)
      have HLI : Hid ((isort ltR (lAll L)).length = (lAll L).length) := Lib.hid (isort_len _)
      have hal : (lAll L).length ≤ 200 := HN.out
      generalize lAll L = all at *
      clear hlt hk HQ H1
      go_wp2_with fail
      refine HS.out.mono ?_
      rintro e w2 ⟨A2, c2, rfl, ho2, hb2⟩
      have hs2 := hb2.size
      rw [← HLI.out] at ho2 ⊢
      have HO2 := Lib.hid ho2
      have HRS := Lib.hid (risingR_calls (c := c2) w2 (Reads.of_own ho2) (Nat.le_refl _) (by rw [HLI.out]; omega))
      have HB2 : Hid (Below w.heap.size w w2) := Lib.hid (hbel.trans (hb2.mono hsz))
      clear ho2 hb2 hbel HS HO HLI
      generalize isort ltR all = d at *
      go_wp2_with fail
      refine HRS.out.mono ?_
      rintro e w3 ⟨rfl, hb3⟩
      cases hr : risB d
      · have HX := Lib.hid (HE.out.1 hr)
        clear HE HRS
        clear hr
        go_wp2
        go_ret2
        exact ⟨none, 0, [], by rw [HX.out.1]; rfl, HX.out.2.symm, World.ownsRow_nil _ _ _ _, HB2.out.trans (hb3.mono (by omega))⟩
      · have HX := Lib.hid (HE.out.2 hr)
        clear HE HRS
        clear hr
        go_wp2
        go_ret2
        exact ⟨A2, c2, d, by rw [HX.out.1]; rfl, HX.out.2.symm, own_base (own_below HO2.out hb3) (by omega), HB2.out.trans (hb3.mono (by omega))⟩
end Go.Proofs.Ytophfgijfmdbcaa.Mg
