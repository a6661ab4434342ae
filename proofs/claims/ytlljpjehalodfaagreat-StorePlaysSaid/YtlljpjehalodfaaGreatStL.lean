/- slices.IndexFunc and slices.DeleteFunc at ints (chapter 14). -/
import Derived.Test.YtlljpjehalodfaaGreatProg
import Derived.Test.YtlljpjehalodfaaGreatStIJ
namespace Go.Proofs.YtlljpjehalodfaaGreat
open Go.RowKit Go.Sort Go.Shelf Go.Lib
namespace St

set_option maxHeartbeats 1600000 in
theorem indexI_calls (w : World) {base B c g : Nat} {lb : Array Value} {A : Option Addr} {l : List Int} {w0 : World} {p : Int → Bool} (ht : Tells base w0 g lb (Value.int .i64) p) (hw : Below base w0 w) (hr : Reads w B 1 A l.length (l.map (Value.int .i64))) (hn : l.length ≤ 1000000) :
    Calls Tryz.prog 60 #[.slice A l.length c, .func (.func g) #[] lb] w fun e w' => e = .returned (.int .i64 (idxF p l)) ∧ w' = w := by
  have HR := Lib.hid hr
  have HT := Lib.hid ht.2
  have eg := ht.1
  have HW := Lib.hid hw
  clear hr ht hw
  go_enter Tryz.func60, Tryz.ntmps60
  go_wp2
  go_loopw [8] (fun i wr => ∃ j : Nat, j ≤ l.length ∧ i = .int .i64 (j : Int) ∧ Hid (∀ k, k < j → p (gA l 0 k) = false) ∧ Hid (wr = w)) (fun i _ => l.length - (intOf i).toNat)
  case atStart => exact ⟨0, Nat.zero_le _, rfl, Lib.hid (fun k hk => absurd hk (Nat.not_lt_zero k)), Lib.hid rfl⟩
  case round =>
    obtain ⟨j, hj, rfl, HF, HE⟩ := hrel
    obtain rfl := HE.out
    by_cases hlt : j < l.length
    · obtain ⟨b, o, e, hb, hc⟩ := HR.out.2 (by omega)
      have x0 := hc j (.int .i64 (gA l 0 j)) (by rw [List.getElem?_map, List.getElem?_eq_getElem hlt, gA_eq (z := 0) hlt]; rfl)
      have i0 : (0 : Int) ≤ (j : Int) := by omega
      have i9 : (j : Int) < (l.length : Int) := by omega
      have HS := Lib.hid fun (hp : p (gA l 0 j) = true) => idxF_some hlt hp HF.out
      have HN : Hid (p (gA l 0 j) = false → ∀ k, k < j + 1 → p (gA l 0 k) = false) := Lib.hid fun hp k hk => by
        by_cases e : k = j
        · rw [e]; exact hp
        · exact HF.out k (by omega)
      clear hc HF
      subst e
      generalize gA l 0 j = x at *
      go_wp2_with fail
      refine (HT.out wr HW.out x).mono ?_
      rintro e w' ⟨rfl, rfl⟩
      cases hp : p x with
      | true =>
        have e1 := Lib.hid (HS.out hp)
        go_wp2
        go_ret
        exact ⟨by rw [e1.out]; rfl, rfl⟩
      | false =>
        have HN2 := Lib.hid (HN.out hp)
        go_wp2
        go_roundw
        case rel => exact ⟨j + 1, by omega, by go_num, HN2, Lib.hid trivial⟩
        case measure => simp [intOf]; omega
    · obtain rfl : j = l.length := by omega
      have e1 := Lib.hid (idxF_none HF.out)
      go_wp2
      go_ret
      exact ⟨by rw [e1.out]; rfl, rfl⟩
set_option maxHeartbeats 1600000 in
theorem deleI_calls (w : World) {base c g : Nat} {lb : Array Value} {A : Option Addr} {l : List Int} {w0 : World} {p : Int → Bool} (ho : w.ownsRow base 3 1 (.slice A l.length c) l.length (l.map (Value.int .i64))) (ht : Tells base w0 g lb (Value.int .i64) p) (hw : Below base w0 w) (hn : l.length ≤ 1000000) (hbase : base ≤ w.heap.size) :
    Calls Tryz.prog 47 #[.slice A l.length c, .func (.func g) #[] lb] w fun e w' => ∃ A', e = .returned (.slice A' (keepF p l).length c) ∧ (keepF p l).length ≤ c ∧ Reads w' w'.heap.size 1 A' (keepF p l).length ((keepF p l).map (Value.int .i64)) ∧ Below base w w' := by
  rcases ho.2 with ⟨h0, hl⟩ | ⟨b, cap, cur, hv, hbb, hblk, hnc, hcm, hsz, htk⟩
  · obtain rfl : l = [] := List.eq_nil_of_length_eq_zero hl
    injection h0 with h0 _ hc0
    subst h0 hc0
    have hidx := indexI_calls (c := 0) (A := none) w ht hw (Reads.none_ (B := base)) (l := []) (by simp)
    go_enter Tryz.func47, Tryz.ntmps47
    go_wp2_with fail
    refine hidx.mono ?_
    rintro e w' ⟨rfl, rfl⟩
    have hx : idxF p ([] : List Int) = -1 := rfl
    rw [hx]
    go_wp2
    go_ret
    exact ⟨none, rfl, Nat.le_refl _, Reads.none_, Below.refl _ _⟩
  · injection hv with hA _ hc
    subst hA hc
    have hR := Reads.of_own ho
    have hH : Holds (Value.int .i64) w b 0 l.toArray := fun j hj => by
      have hj' : j < l.length := by simpa using hj
      refine ⟨?_, ?_⟩
      · rw [Nat.zero_add, ho.cellAt j (by omega), List.getElem?_map, List.getElem?_eq_getElem hj']
        simp [getElem!_pos, hj']
      · rw [Nat.zero_add]; exact ho.frozenAt j
    have hcon := AnyE.slices_DeleteFunc Tryz.dele47 (Value.int .i64) (fun _ => rfl) p g lb ht.1 (0 : Int) (fun w => by kernel_rfl) b 0 c l.toArray w
      (fun W x hb => (ht.2 W (hw.trans (hb.mono hbase)) x).mono fun e w' ⟨he, hw'⟩ => ⟨he, 0, hw'⟩)
      (fun n os dk x _ => (ht.2 _ (hw.trans (below_row (Value.int .i64) dk hbb hbase)) x).mono fun e w' ⟨he, hw'⟩ => ⟨he, 0, hw'⟩)
      hH (by simp; omega) (by simpa using hnc)
    change Calls Tryz.prog 47 #[.slice (some ⟨b, 0, none⟩) l.length c, .func (.func g) #[] lb] w _ at hcon
    refine hcon.mono ?_
    rintro e w' ⟨rfl, q, rfl⟩
    have hle : (keepF p l).length ≤ l.length := List.length_filter_le _ _
    refine ⟨some ⟨b, 0, none⟩, rfl, by omega, ⟨by simp, fun hp => ⟨b, 0, rfl, ?_, fun j u hu => ?_⟩⟩, ?_⟩
    · have hb := (Array.getElem?_eq_some_iff.1 hblk).1
      simpa using hb
    · have hj : j < (keepF p l).length := by have := (List.getElem?_eq_some_iff.1 hu).1; simpa using this
      have h1 := cell?_putRow (Value.int .i64) (Sort.ahead w q) b 0 l.toArray ((keepF p l) ++ List.replicate (l.length - (keepF p l).length) (0 : Int)).toArray hH (by simp; omega) j (by simp; omega)
      rw [List.getElem?_map, List.getElem?_eq_getElem hj] at hu
      injection hu with hu
      subst hu
      refine h1.trans ?_
      rw [getElem!_pos _ j (by simp; omega)]
      simp [List.getElem_append_left hj]
    · have := below_row (Value.int .i64) (w := w) (n := q) (off := 0) (os := #[]) ((keepF p l) ++ List.replicate (l.length - (keepF p l).length) (0 : Int)).toArray hbb hbase
      rw [grow_empty] at this
      exact this
end St
end Go.Proofs.YtlljpjehalodfaaGreat
