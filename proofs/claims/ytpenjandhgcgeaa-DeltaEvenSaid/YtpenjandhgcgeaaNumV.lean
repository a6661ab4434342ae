/- Contracts: U of the reference. -/
import Derived.Test.YtpenjandhgcgeaaNumU
namespace Go.Proofs.Ytpenjandhgcgeaa
open Go.RowKit

theorem v_out (w : World) {A : Option Addr} {n c : Nat} (at_ : Int) (h : at_ < 0 ∨ (n : Int) ≤ at_) :
    Calls Try.prog 31 #[.slice A n c, .int .i64 at_] w (RetU w (0, 0, 3)) := by
  by_cases h1 : at_ < 0
  · clear h
    go_enter Try.func31, Try.ntmps31
    go_wp2
    go_ret3
    exact ⟨rfl, rfl⟩
  · have h2 : (n : Int) ≤ at_ := by omega
    clear h
    go_enter Try.func31, Try.ntmps31
    go_wp2
    go_ret3
    exact ⟨rfl, rfl⟩

set_option maxRecDepth 100000 in
set_option maxHeartbeats 400000 in
theorem v_in (w : World) {B : Nat} {A : Option Addr} {n c : Nat} {l : List UInt8} (hb : Bytes w B A n l) (k : Nat) (hk : k < n) (hm : n ≤ 9223372036854775807) :
    Calls Try.prog 31 #[.slice A n c, .int .i64 (k : Int)] w (RetU w (readAt (l.drop k))) := by
  obtain ⟨b, off, rfl, _, hcell⟩ := hb.cell hk
  have hl : (l.drop k).length = n - k := by rw [List.length_drop, hb.1]
  have hcells : ∀ j (hj : j < (l.drop k).length), w.cell? ⟨b, off + (k + j), none⟩ = some (.int .u8 (((l.drop k)[j]).toNat : Int)) := fun j hj => by
    have := hcell (k + j) (by omega)
    simpa using this
  clear hcell hb
  generalize l.drop k = r at *
  have Hl := Lib.hid hl; clear hl
  have Hcells := Lib.hid hcells; clear hcells
  have d1 : decide (n ≤ k) = false := by simp; omega
  have d2 : decide ((k : Int) < 0) = false := by simp
  go_enter Try.func31, Try.ntmps31
  go_upto_block 0 with fail
  go_cut [7] (fun i wx => ∃ j : Nat, j ≤ n - k ∧ j ≤ 9 ∧ i = .int .i64 (j : Int) ∧ Hid (headsF 9 r = j) ∧ wx = w)
  case first =>
    go_wp2_with fail
    go_loop [7] (fun i => ∃ j : Nat, j ≤ n - k ∧ j ≤ 9 ∧ i = .int .i64 (j : Int) ∧ Hid (∀ t, t < j → 128 ≤ (r.getD t 0).toNat)) (fun i => 9 - (intOf i).toNat)
    case atStart => exact ⟨0, by omega, by omega, rfl, fun t ht => by omega⟩
    case round =>
      obtain ⟨j, hj, hj9, rfl, hbig⟩ := hrel
      by_cases h9 : j < 9
      · by_cases hlt : j < n - k
        · have hx := Hcells.out j (by rw [Hl.out]; exact hlt)
          generalize hxe : r[j]'(by rw [Hl.out]; exact hlt) = x at *
          by_cases h128 : 128 ≤ (x.toNat : Int)
          · have hbig2 : Hid (∀ t, t < j + 1 → 128 ≤ (r.getD t 0).toNat) := heads_step hbig.out (by rw [Hl.out]; exact hlt) (by rw [hxe]; omega)
            clear hxe
            go_wp2
            go_round
            case rel => exact ⟨j + 1, by omega, by omega, by go_num, hbig2⟩
            case measure => simp [intOf]; omega
          · have Hh : Hid (headsF 9 r = j) := headsF_eq 9 r j (by omega) (by rw [Hl.out]; omega) hbig.out (.inr (.inr (by
              have : r.getD j 0 = x := by rw [← hxe]; simp [List.getD, List.getElem?_eq_getElem (show j < r.length by rw [Hl.out]; exact hlt)]
              rw [this]; omega)))
            clear hxe
            go_wp2
            go_meet
            case rel => exact ⟨j, hj, hj9, rfl, Hh, rfl⟩
        · have Hh : Hid (headsF 9 r = j) := headsF_eq 9 r j (by omega) (by rw [Hl.out]; omega) hbig.out (.inr (.inl (by rw [Hl.out]; omega)))
          go_wp2
          go_meet
          case rel => exact ⟨j, hj, hj9, rfl, Hh, rfl⟩
      · have Hh : Hid (headsF 9 r = j) := headsF_eq 9 r j (by omega) (by rw [Hl.out]; omega) hbig.out (.inl (by omega))
        go_wp2
        go_meet
        case rel => exact ⟨j, hj, hj9, rfl, Hh, rfl⟩
  case rest =>
    obtain ⟨j, hj, hj9, rfl, hh, rfl⟩ := hcut
    clear d1 d2
    by_cases hlt : j < n - k
    · have hx := Hcells.out j (by rw [Hl.out]; exact hlt)
      have hlr : j < r.length := by rw [Hl.out]; exact hlt
      generalize hxe : r[j]'hlr = x at *
      have hx2 := UInt8.toNat_lt x
      by_cases hbad : (j = 9 ∧ 1 < x.toNat) ∨ (0 < j ∧ x.toNat = 0)
      · have Hfin := Lib.hid (readAt_h2 hh.out hlr (by rw [hxe]; exact hbad))
        clear hxe
        by_cases h9 : j = 9 ∧ 1 < x.toNat
        · have q1 : ((j : Int) == 9) = true := by simp; omega
          have q2 : (1 : Int) < (x.toNat : Int) := by omega
          clear hbad h9
          go_wp2
          go_ret3
          rw [Hfin.out]; exact ⟨rfl, rfl⟩
        · have q3 : 0 < j := by omega
          have q4 : ((x.toNat : Int) == 0) = true := by simp; omega
          have q5 : ¬ (1 : Int) < (x.toNat : Int) := by omega
          clear hbad h9
          go_wp2
          all_goals go_ret3
          all_goals (rw [Hfin.out]; exact ⟨rfl, rfl⟩)
      · have Hfin := Lib.hid (readAt_h3 hh.out hlr (by rw [hxe]; exact hbad))
        have hmax := lev_max hj9 hlr (by rw [hxe]; omega)
        clear hxe
        have q : (((j : Int) == 9) = true ∧ (¬ (1 : Int) < (x.toNat : Int) ∧ 0 < j) ∧ ((x.toNat : Int) == 0) = false) ∨ (((j : Int) == 9) = false ∧ 0 < j ∧ ((x.toNat : Int) == 0) = false) ∨ (((j : Int) == 9) = false ∧ ¬ 0 < j) := by
          by_cases h9 : j = 9
          · exact .inl ⟨by simp; omega, ⟨by omega, by omega⟩, by simp; omega⟩
          · by_cases h0 : 0 < j
            · exact .inr (.inl ⟨by simp; omega, h0, by simp; omega⟩)
            · exact .inr (.inr ⟨by simp; omega, h0⟩)
        clear hbad
        rcases q with ⟨q1, q2, q3⟩ | ⟨q1, q2, q3⟩ | ⟨q1, q2⟩
        all_goals
          go_wp2
          go_loop [9, 10] (fun v i => ∃ t : Nat, t ≤ j + 1 ∧ i = .int .i64 ((t : Int) - 1) ∧ v = .int .u64 (lev ((r.take (j + 1)).drop t) : Nat)) (fun _ i => (intOf i + 1).toNat)
          case atStart => exact ⟨j + 1, by omega, by go_num, by simp [lev]⟩
          case round =>
            obtain ⟨t, ht, rfl, rfl⟩ := hrel
            rcases Nat.eq_zero_or_pos t with h0 | h0
            · subst h0
              go_wp2
              go_ret3
              rw [Hfin.out]; exact ⟨rfl, rfl⟩
            · obtain ⟨s, rfl⟩ : ∃ s, t = s + 1 := ⟨t - 1, by omega⟩
              have hy := Hcells.out s (by omega)
              have e := lev_back (t := s) (by omega) hlr
              have hle := lev_drop_le (r.take (j + 1)) s
              generalize r[s]'(by omega) = y at *
              have hy2 := UInt8.toNat_lt y
              generalize hacc : lev ((r.take (j + 1)).drop (s + 1)) = acc at *
              have ee : ((s + 1 : Nat) : Int) - 1 = (s : Int) := by omega
              rw [ee]
              have hb1 : (acc : Int) * 128 + (y.toNat : Int) % 128 ≤ 18446744073709551615 := by omega
              have hb2 : (acc : Int) * 128 ≤ 18446744073709551615 := by omega
              have Hv : Hid ((acc : Int) * 128 + (y.toNat : Int) % 128 = ((lev ((r.take (j + 1)).drop s) : Nat) : Int)) := by rw [e]; show _ = _; omega
              have Hle := Lib.hid hle
              clear e hle hacc ee hmax
              go_wp2
              go_round
              case rel => exact ⟨s, by omega, by go_num, by rw [Hv.out]⟩
              case measure => simp [intOf]
    · have Hfin := Lib.hid (readAt_h1 hh.out (by rw [Hl.out]; omega))
      go_wp2
      go_ret3
      rw [Hfin.out]; exact ⟨rfl, rfl⟩

/-- U of the reference. -/
theorem v_calls (w : World) {B : Nat} {A : Option Addr} {n c : Nat} {l : List UInt8} (hb : Bytes w B A n l) (at_ : Int) (hm : n ≤ 9223372036854775807) :
    Calls Try.prog 31 #[.slice A n c, .int .i64 at_] w (RetU w (readU l at_)) := by
  unfold readU
  rw [hb.1]
  by_cases h : at_ < 0 ∨ (n : Int) ≤ at_
  · rw [if_pos h]; exact v_out w at_ h
  · rw [if_neg h]
    obtain ⟨k, rfl⟩ := Int.eq_ofNat_of_zero_le (show 0 ≤ at_ by omega)
    exact v_in w hb k (by omega) hm

theorem readU_max (l : List UInt8) (at_ : Int) : (readU l at_).1 ≤ 18446744073709551615 ∧ (readU l at_).2.1 ≤ 10 := by
  unfold readU; split
  · simp
  · exact ⟨(readAt_max _).1, (readAt_max _).2.1⟩

def RetI (w : World) (r : Nat × Nat × Nat) (e : Ending) (w' : World) : Prop := e = .returned (.tuple #[.int .i64 (if r.2.2 = 0 then zagI r.1 else 0), .int .i64 (r.2.1 : Nat), .int .i64 (r.2.2 : Nat)]) ∧ w = w'

theorem readAt_err (r : List UInt8) (h : (readAt r).2.2 ≠ 0) : (readAt r).1 = 0 ∧ (readAt r).2.1 = 0 := by
  unfold readAt at *
  by_cases h2 : r.length ≤ headsF 9 r
  · rw [if_pos h2]; exact ⟨rfl, rfl⟩
  · rw [if_neg h2] at h ⊢
    split
    · exact ⟨rfl, rfl⟩
    · rename_i h3
      rw [if_neg h3] at h
      exact absurd rfl h
theorem readU_err (l : List UInt8) (at_ : Int) (h : (readU l at_).2.2 ≠ 0) : (readU l at_).1 = 0 ∧ (readU l at_).2.1 = 0 := by
  unfold readU at *
  by_cases h1 : at_ < 0 ∨ (l.length : Int) ≤ at_
  · rw [if_pos h1]; exact ⟨rfl, rfl⟩
  · rw [if_neg h1] at h ⊢
    exact readAt_err _ h

/-- I of nums. -/
theorem i_calls (w : World) {B : Nat} {A : Option Addr} {n c : Nat} {l : List UInt8} (hb : Bytes w B A n l) (at_ : Int) (hc : n ≤ c) (hm : n ≤ 9223372036854775807) :
    Calls Try.prog 30 #[.slice A n c, .int .i64 at_] w (RetI w (readU l at_)) := by
  have hmax := (readU_max l at_).1
  have herr := readU_err l at_
  go_enter Try.func30, Try.ntmps30
  go_wp2_with fail
  refine (u_calls w hb at_ hc hm).mono ?_
  rintro e w' ⟨rfl, rfl⟩
  generalize readU l at_ = r at *
  obtain ⟨x, j, g⟩ := r
  simp only at hmax herr
  by_cases hg : g = 0
  · have q : ((g : Int) != 0) = false := by simp [hg]
    clear herr
    have Hg := Lib.hid hg; clear hg
    go_wp2_with fail
    refine (zag_calls x w hmax).mono ?_
    rintro e w' ⟨rfl, rfl⟩
    go_wp2
    go_ret3
    refine ⟨?_, rfl⟩
    have := Hg.out
    subst this
    simp
  · have q : ((g : Int) != 0) = true := by simp [hg]
    have Hg := Lib.hid hg
    have He := Lib.hid (herr hg)
    clear hg herr
    go_wp2
    go_ret3
    refine ⟨?_, rfl⟩
    have h1 := He.out
    have h2 := Hg.out
    simp [h2, h1.2]
end Go.Proofs.Ytpenjandhgcgeaa
