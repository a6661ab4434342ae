/- Contracts: U of nums and of the reference. -/
import Derived.Test.YtpenjandhgcgeaaNumB
import Derived.Test.YtpenjandhgcgeaaNumP
namespace Go.Proofs.Ytpenjandhgcgeaa
open Go.RowKit

def RetU (w : World) (r : Nat × Nat × Nat) (e : Ending) (w' : World) : Prop := e = .returned (.tuple #[.int .u64 (r.1 : Nat), .int .i64 (r.2.1 : Nat), .int .i64 (r.2.2 : Nat)]) ∧ w = w'

theorem ret_u {k : IntKind} {a b : Int} {x y : Value} (h : a = b) : Ending.returned (.tuple #[.int k a, x, y]) = .returned (.tuple #[.int k b, x, y]) := by rw [h]
theorem u_out (w : World) {A : Option Addr} {n c : Nat} (at_ : Int) (h : at_ < 0 ∨ (n : Int) ≤ at_) :
    Calls Try.prog 29 #[.slice A n c, .int .i64 at_] w (RetU w (0, 0, 3)) := by
  by_cases h1 : at_ < 0
  · clear h
    go_enter Try.func29, Try.ntmps29
    go_wp2
    go_ret3
    exact ⟨rfl, rfl⟩
  · have h2 : (n : Int) ≤ at_ := by omega
    clear h
    go_enter Try.func29, Try.ntmps29
    go_wp2
    go_ret3
    exact ⟨rfl, rfl⟩

set_option maxRecDepth 100000 in
set_option maxHeartbeats 400000 in
theorem u_in (w : World) {B : Nat} {A : Option Addr} {n c : Nat} {l : List UInt8} (hb : Bytes w B A n l) (k : Nat) (hk : k < n) (hc : n ≤ c) (hm : n ≤ 9223372036854775807) :
    Calls Try.prog 29 #[.slice A n c, .int .i64 (k : Int)] w (RetU w (readAt (l.drop k))) := by
  obtain ⟨b, off, rfl, _, hcell⟩ := hb.cell hk
  have hl : (l.drop k).length = n - k := by rw [List.length_drop, hb.1]
  have hcells : ∀ j (hj : j < (l.drop k).length), w.cell? ⟨b, off + k + j, none⟩ = some (.int .u8 (((l.drop k)[j]).toNat : Int)) := fun j hj => by
    have := hcell (k + j) (by omega)
    rw [← Nat.add_assoc] at this
    simpa using this
  clear hcell hb
  generalize l.drop k = r at *
  have hck : ¬ c = k := by omega
  go_enter Try.func29, Try.ntmps29
  go_wp2
  go_loop [7, 22] (fun acc i => ∃ j : Nat, j ≤ n - k ∧ j ≤ 9 ∧ acc = .int .u64 (lev (r.take j) : Nat) ∧ i = .int .i64 (j : Int) ∧ Hid (∀ t, t < j → 128 ≤ (r.getD t 0).toNat)) (fun _ i => (n - k) - (intOf i).toNat)
  case atStart => exact ⟨0, by omega, by omega, by simp [lev], rfl, fun t ht => by omega⟩
  case round =>
    obtain ⟨j, hj, hj9, rfl, rfl, hbig⟩ := hrel
    by_cases hlt : j < r.length
    · have hx := hcells j hlt
      have hl2 : (0 : Int) ≤ (r[j].toNat : Int) ∧ (r[j].toNat : Int) < 256 := by have := UInt8.toNat_lt r[j]; omega
      clear hcells
      generalize hacc : lev (r.take j) = acc at *
      generalize hxe : r[j] = x at *
      have Ha := Lib.hid hacc; clear hacc
      have Hx := Lib.hid hxe; clear hxe
      have hlt2 : j < n - k := by omega
      have Hl := Lib.hid hl; clear hl
      have hacc2 : acc < 128 ^ j := by rw [← Ha.out]; exact lev_take_lt r j
      have Hstep : (j = 9 → x.toNat % 128 ≤ 1) → Hid (bits .or .u64 (acc : Int) (IntKind.u64.wrap (IntKind.u64.wrap (bits .and .u8 (x.toNat : Int) 127) * 2 ^ (7 * j))) = ((lev (r.take (j + 1)) : Nat) : Int)) := fun h => by
        have := or_step acc j x hj9 hacc2 h
        rw [lev_take r j hlt, Hx.out, Ha.out]; exact this
      clear hacc2
      by_cases h9 : j = 9
      · have q1 : ((j : Int) == 9) = true := by simp; omega
        by_cases h1 : 1 < (x.toNat : Int)
        · have Hfin := Lib.hid (readAt_form hj9 hlt hbig.out (.inl ⟨h9, by rw [Hx.out]; omega⟩))
          clear h9 Hstep
          go_wp2
          go_ret3
          rw [Hfin.out]; exact ⟨rfl, rfl⟩
        · by_cases h0 : (x.toNat : Int) = 0
          · have q2 : ((x.toNat : Int) == 0) = true := by simp; omega
            have hj0 : 0 < j := by omega
            have Hfin := Lib.hid (readAt_form hj9 hlt hbig.out (.inr ⟨by rw [Hx.out]; omega, hj0⟩))
            clear h0 h9 Hstep
            go_wp2
            go_ret3
            rw [Hfin.out]; exact ⟨rfl, rfl⟩
          · have q2 : ((x.toNat : Int) == 0) = false := by simp; omega
            have Hfin := Lib.hid (readAt_ok hj9 hlt hbig.out (by rw [Hx.out]; omega) (by rw [Hx.out]; omega))
            have Hs := Hstep (by omega)
            have h128 : (x.toNat : Int) < 128 := by omega
            clear h0 h9 Hstep
            go_wp2
            go_ret3
            rw [Hfin.out]; exact ⟨ret_u Hs.out, rfl⟩
      · have q1 : ((j : Int) == 9) = false := by simp; omega
        have Hs := Hstep (by omega)
        clear Hstep
        by_cases h0 : (x.toNat : Int) = 0
        · have q2 : ((x.toNat : Int) == 0) = true := by simp; omega
          by_cases hj0 : 0 < j
          · have Hfin := Lib.hid (readAt_form hj9 hlt hbig.out (.inr ⟨by rw [Hx.out]; omega, hj0⟩))
            clear h0 h9
            go_wp2
            go_ret3
            rw [Hfin.out]; exact ⟨rfl, rfl⟩
          · have Hfin := Lib.hid (readAt_ok hj9 hlt hbig.out (by rw [Hx.out]; omega) (by rw [Hx.out]; omega))
            have h128 : (x.toNat : Int) < 128 := by omega
            clear h0 h9
            go_wp2
            go_ret3
            rw [Hfin.out]; exact ⟨ret_u Hs.out, rfl⟩
        · have q2 : ((x.toNat : Int) == 0) = false := by simp; omega
          by_cases h128 : (x.toNat : Int) < 128
          · have Hfin := Lib.hid (readAt_ok hj9 hlt hbig.out (by rw [Hx.out]; omega) (by rw [Hx.out]; omega))
            clear h0 h9
            go_wp2
            go_ret3
            rw [Hfin.out]; exact ⟨ret_u Hs.out, rfl⟩
          · have hbig2 : Hid (∀ t, t < j + 1 → 128 ≤ (r.getD t 0).toNat) := heads_step hbig.out hlt (by rw [Hx.out]; omega)
            have hj8 : j < 9 := by omega
            clear h0 h9
            go_wp2
            go_round
            case rel => exact ⟨j + 1, by omega, by omega, by rw [Hs.out], by go_num, hbig2⟩
            case measure => simp [intOf]; omega
    · have Hfin := Lib.hid (readAt_short (r := r) (by omega) (fun t ht => hbig.out t (by omega)))
      have hge : ¬ j < n - k := by omega
      clear hcells
      go_wp2
      go_ret3
      rw [Hfin.out]; exact ⟨rfl, rfl⟩

/-- U of nums: what the bytes say at that place. -/
theorem u_calls (w : World) {B : Nat} {A : Option Addr} {n c : Nat} {l : List UInt8} (hb : Bytes w B A n l) (at_ : Int) (hc : n ≤ c) (hm : n ≤ 9223372036854775807) :
    Calls Try.prog 29 #[.slice A n c, .int .i64 at_] w (RetU w (readU l at_)) := by
  unfold readU
  rw [hb.1]
  by_cases h : at_ < 0 ∨ (n : Int) ≤ at_
  · rw [if_pos h]; exact u_out w at_ h
  · rw [if_neg h]
    obtain ⟨k, rfl⟩ := Int.eq_ofNat_of_zero_le (show 0 ≤ at_ by omega)
    exact u_in w hb k (by omega) hc hm
end Go.Proofs.Ytpenjandhgcgeaa
