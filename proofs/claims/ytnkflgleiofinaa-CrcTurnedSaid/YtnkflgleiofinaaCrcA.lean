/- Contracts of the package crc (chapter 3): row, Write, Sum. -/
import Derived.Test.YtnkflgleiofinaaTwin
import Derived.Test.YtnkflgleiofinaaCrcQ
import Derived.Laws.BitsAllLaws
namespace Go.Proofs.Ytnkflgleiofinaa
open Go.RowKit

set_option maxRecDepth 100000 in
set_option maxHeartbeats 400000 in
theorem row_calls (x : Nat) (w : World) (hx : x < 16) :
    Calls Try.prog 18 #[.int .u32 (x : Int)] w fun e w' => e = .returned (.int .u32 (row x : Nat)) ∧ w = w' := by
  have h : x = 0 ∨ x = 1 ∨ x = 2 ∨ x = 3 ∨ x = 4 ∨ x = 5 ∨ x = 6 ∨ x = 7 ∨ x = 8 ∨ x = 9 ∨ x = 10 ∨ x = 11 ∨ x = 12 ∨ x = 13 ∨ x = 14 ∨ x = 15 := by omega
  clear hx
  rcases h with rfl | rfl | rfl | rfl | rfl | rfl | rfl | rfl | rfl | rfl | rfl | rfl | rfl | rfl | rfl | rfl
  all_goals
    go_enter Try.func18, Try.ntmps18
    go_wp2
    go_ret
    exact ⟨rfl, rfl⟩

theorem u32_xor_n (a b : Nat) (ha : a < 4294967296) (hb : b < 4294967296) : bits .xor .u32 (a : Int) (b : Int) = ((a ^^^ b : Nat) : Int) := by
  have hx : a ^^^ b < 2 ^ 32 := Nat.xor_lt_two_pow (by omega) (by omega)
  have h1 : ∀ n : Nat, n < 4294967296 → (BitVec.ofInt 32 (n : Int)).toNat = n := by
    intro n hn
    rw [BitVec.ofInt_natCast, BitVec.toNat_ofNat]; exact Nat.mod_eq_of_lt (by omega)
  show IntKind.u32.wrap ((BitVec.ofInt 32 (a : Int) ^^^ BitVec.ofInt 32 (b : Int)).toNat : Int) = _
  rw [BitVec.toNat_xor, h1 a ha, h1 b hb, IntKind.wrap_u32]
  omega

theorem u32_and15 (a : Nat) (ha : a < 4294967296) : bits .and .u32 (a : Int) 15 = ((a % 16 : Nat) : Int) := by
  have h1 : ∀ n : Nat, n < 4294967296 → (BitVec.ofInt 32 (n : Int)).toNat = n := by
    intro n hn
    rw [BitVec.ofInt_natCast, BitVec.toNat_ofNat]; exact Nat.mod_eq_of_lt (by omega)
  show IntKind.u32.wrap ((BitVec.ofInt 32 (a : Int) &&& BitVec.ofInt 32 ((15 : Nat) : Int)).toNat : Int) = _
  rw [BitVec.toNat_and, h1 a ha, h1 15 (by omega), IntKind.wrap_u32, show (15 : Nat) = 2 ^ 4 - 1 from rfl, Nat.and_two_pow_sub_one_eq_mod]
  omega
theorem u32_not (T : Nat) (h : T ≤ 4294967295) : bits .xor .u32 IntKind.u32.max (T : Int) = ((4294967295 - T : Nat) : Int) := by
  have e : IntKind.u32.max = ((4294967295 : Nat) : Int) := rfl
  rw [e, u32_xor_n _ _ (by omega) (by omega), Nat.xor_comm, ← not32 (by omega)]
/-- The register turned by four bits, as the walk says it. -/
theorem nib_int (c : Nat) (h : c < 4294967296) (e : Int) (he : e = (c : Int) / 16) : bits .xor .u32 e ((row (c % 16) : Nat) : Int) = ((nib c : Nat) : Int) := by
  subst he
  have hr : ∀ r : Fin 16, row r.val < 4294967296 := by decide
  have e1 : (c : Int) / 16 = ((c / 16 : Nat) : Int) := by omega
  have := hr ⟨c % 16, by omega⟩
  rw [e1, u32_xor_n _ _ (by omega) this]; rfl

theorem wr1 {m x : Nat} (hm : m < 4294967296) (hx : x < 256) : bits .xor .u32 (m : Int) ((x : Int) % 4294967296) = ((m ^^^ x : Nat) : Int) := by
  have e : (x : Int) % 4294967296 = (x : Int) := by omega
  rw [e, u32_xor_n _ _ hm (by omega)]
theorem crc_next {m k C : Nat} {l : List UInt8} (hk : k < l.length) (h : crcRun m (l.drop k) = C) : crcRun (nib (nib (m ^^^ l[k].toNat))) (l.drop (k + 1)) = C := by
  rw [nib_step, ← crcRun_cons, ← List.drop_eq_getElem_cons hk]; exact h
theorem crc_next' {m k C : Nat} {l : List UInt8} (hk : k < l.length) (h : crcRun m (l.drop k) = C) : crcRun (crcStep m l[k].toNat) (l.drop (k + 1)) = C := by
  rw [← crcRun_cons, ← List.drop_eq_getElem_cons hk]; exact h
theorem bits_next {m k C : Nat} (hk : k < 8) (h : bits_ (8 - k) m = C) : bits_ (8 - (k + 1)) (bit m) = C := by
  have e : 8 - k = (8 - (k + 1)) + 1 := by omega
  rw [e] at h; exact h
theorem bits_last {m k C : Nat} (hk : 8 ≤ k) (h : bits_ (8 - k) m = C) : C = m := by
  have e : 8 - k = 0 := by omega
  rw [e] at h; exact h.symm
theorem crc_last {m C : Nat} {l : List UInt8} {n : Nat} (hl : l.length = n) (h : crcRun m (l.drop n) = C) : C = m := by
  rw [← hl, List.drop_length, crcRun_nil] at h; exact h.symm
theorem row_calls' (x : Nat) (a : Int) (w : World) (hx : x < 16) (h : a = (x : Int)) :
    Calls Try.prog 18 #[.int .u32 a] w fun e w' => e = .returned (.int .u32 (row x : Nat)) ∧ w = w' := by
  subst h; exact row_calls x w hx

/-- A digest's register behind bytes, turned. -/
def wroteN (T : Nat) (l : List UInt8) : Nat := 4294967295 - crcRun (4294967295 - T) l

set_option maxRecDepth 100000 in
set_option maxHeartbeats 800000 in
theorem write_calls (w : World) {g B n c T : Nat} {A : Option Addr} {l : List UInt8} (hb : Blk w g 27 #[.int .u32 (T : Int)]) (h : Bytes w B A n l) (hT : T ≤ 4294967295) (hn : n ≤ 140737488355328) :
    Calls Try.prog 8 #[.pointer (some ⟨g, 0, none⟩), .slice A n c] w fun e w' => e = .returned (.tuple #[]) ∧ Blk w' g 27 #[.int .u32 ((wroteN T l : Nat) : Int)] ∧ Only g w w' := by
  have c0 := hb.cell 0
  have f0 := hb.frozen 0
  have hl := h.len
  go_enter Try.func8, Try.ntmps8
  have h1 : ¬ IntKind.u32.signed = true := by decide
  have h2 := Lib.hid (u32_not T hT)
  go_wp2
  go_loopw [4, 16] (fun c i wr => ∃ (m k : Nat), i = .int .i64 (k : Int) ∧ c = .int .u32 (m : Int) ∧ m < 4294967296 ∧ k ≤ n ∧ Hid (crcRun m (l.drop k) = crcRun (4294967295 - T) l) ∧ wr = w) (fun _ i _ => n - (intOf i).toNat)
  case atStart => exact ⟨4294967295 - T, 0, rfl, by rw [h2.out], by omega, by omega, Lib.hid rfl, rfl⟩
  case round =>
    obtain ⟨m, k, rfl, rfl, hm, hk, hrun, rfl⟩ := hrel
    by_cases hlt : k < n
    · obtain ⟨b, off, rfl, hbB, hcell⟩ := h.cell hlt
      have hck := hcell k hlt
      have hlt' : k < l.length := by omega
      have E1 := Lib.hid (wr1 hm (UInt8.toNat_lt l[k]))
      have hx1 : m ^^^ l[k].toNat < 4294967296 := Nat.xor_lt_two_pow (n := 32) (by omega) (Nat.lt_of_lt_of_le (UInt8.toNat_lt l[k]) (by decide))
      have Hc := Lib.hid (crc_next (m := m) (l := l) hlt' hrun.out)
      go_wp2_with fail
      refine (row_calls' ((m ^^^ l[k].toNat) % 16) _ wr (by omega) (by rw [E1.out, u32_and15 _ hx1])).mono ?_
      rintro en w' ⟨rfl, rfl⟩
      have hn1 : nib (m ^^^ l[k].toNat) < 4294967296 := nib_lt hx1
      have E2 := Lib.hid (nib_int _ hx1 (bits .xor .u32 (m : Int) ((l[k].toNat : Int) % 4294967296) / 16) (by rw [E1.out]))
      go_wp2_with fail
      refine (row_calls' (nib (m ^^^ l[k].toNat) % 16) _ wr (by omega) (by rw [E2.out, u32_and15 _ hn1])).mono ?_
      rintro en w' ⟨rfl, rfl⟩
      have E3 := Lib.hid (nib_int _ hn1 (bits .xor .u32 (bits .xor .u32 (m : Int) ((l[k].toNat : Int) % 4294967296) / 16) ((row ((m ^^^ l[k].toNat) % 16) : Nat) : Int) / 16) (by rw [E2.out]))
      go_wp2
      go_roundw
      case rel => exact ⟨nib (nib (m ^^^ l[k].toNat)), k + 1, by go_num, by rw [E3.out], nib_lt hn1, by omega, Hc, trivial⟩
      case measure => simp [intOf]; omega
    · have hk2 : k = n := by omega
      subst hk2
      have Hf := Lib.hid (crc_last (hl := hl) hrun.out)
      have h3 := Lib.hid (u32_not m (by omega))
      have hg := hb.lt
      go_wp2
      go_end0
      refine ⟨rfl, ?_, (Only.refl g _).setCell (.inl rfl) _⟩
      have h4 := hb.set_ 0 (.int .u32 ((wroteN T l : Nat) : Int))
      have e : wroteN T l = 4294967295 - m := by unfold wroteN; rw [Hf.out]
      rw [h3.out, ← e]
      exact h4

theorem writeNil_calls (w : World) (v : Value) :
    Calls Try.prog 8 #[.pointer none, v] w fun e w' => e = .returned (.tuple #[]) ∧ w = w' := by
  go_enter Try.func8, Try.ntmps8
  go_wp2
  (try simp only [Exit.inBlock, Exit.then])
  refine bodyPost_ret (results_none rfl _ _ _) rfl ?_
  exact ⟨rfl, rfl⟩
theorem dsumNil_calls (w : World) :
    Calls Try.prog 9 #[.pointer none] w fun e w' => e = .returned (.int .u32 0) ∧ w = w' := by
  go_enter Try.func9, Try.ntmps9
  go_wp2
  go_ret
  exact ⟨rfl, rfl⟩
theorem dsum_calls (w : World) {g T : Nat} (hb : Blk w g 27 #[.int .u32 (T : Int)]) :
    Calls Try.prog 9 #[.pointer (some ⟨g, 0, none⟩)] w fun e w' => e = .returned (.int .u32 (T : Int)) ∧ w = w' := by
  have c0 := hb.cell 0
  go_enter Try.func9, Try.ntmps9
  go_wp2
  go_ret
  exact ⟨rfl, rfl⟩

/-- The reference's Step, Sum. -/
theorem bit_odd {c : Nat} (h : c < 4294967296) (ho : c % 2 = 1) : bits .xor .u32 ((c : Int) / 2) 3988292384 = ((bit c : Nat) : Int) := by
  have e1 : (c : Int) / 2 = ((c / 2 : Nat) : Int) := by omega
  have e2 : (3988292384 : Int) = ((3988292384 : Nat) : Int) := rfl
  rw [e1, e2, u32_xor_n _ _ (by omega) (by omega)]
  unfold bit poly; rw [if_pos ho]
theorem bit_even {c : Nat} (ho : ¬ c % 2 = 1) : (c : Int) / 2 = ((bit c : Nat) : Int) := by
  unfold bit; rw [if_neg ho]; omega
set_option maxRecDepth 100000 in
set_option maxHeartbeats 800000 in
theorem step_calls (c : Nat) (x : UInt8) (w : World) (hc : c < 4294967296) :
    Calls Try.prog 19 #[.int .u32 (c : Int), .int .u8 (x.toNat : Int)] w fun e w' => e = .returned (.int .u32 ((crcStep c x.toNat : Nat) : Int)) ∧ w = w' := by
  have E1 := Lib.hid (wr1 hc (UInt8.toNat_lt x))
  have hx1 : c ^^^ x.toNat < 4294967296 := Nat.xor_lt_two_pow (n := 32) (by omega) (Nat.lt_of_lt_of_le (UInt8.toNat_lt x) (by decide))
  go_enter Try.func19, Try.ntmps19
  go_wp2
  go_loop [0, 5] (fun r i => ∃ (m k : Nat), i = .int .i64 (k : Int) ∧ r = .int .u32 (m : Int) ∧ m < 4294967296 ∧ k ≤ 8 ∧ Hid (bits_ (8 - k) m = crcStep c x.toNat)) (fun _ i => 8 - (intOf i).toNat)
  case atStart => exact ⟨c ^^^ x.toNat, 0, rfl, by rw [E1.out], hx1, by omega, Lib.hid rfl⟩
  case round =>
    obtain ⟨m, k, rfl, rfl, hm, hk, hrun⟩ := hrel
    by_cases hlt : k < 8
    · have Hn := Lib.hid (bits_next hlt hrun.out)
      have hbl : bit m < 4294967296 := bit_lt hm
      by_cases ho : m % 2 = 1
      · have E2 := Lib.hid (bit_odd hm ho)
        have q : ((m : Int) % 2 == 1) = true := eqt (by omega)
        clear ho
        go_wp2
        go_round
        case rel => exact ⟨bit m, k + 1, by go_num, by rw [E2.out], hbl, by omega, Hn⟩
        case measure => simp [intOf]; omega
      · have E2 := Lib.hid (bit_even ho)
        have q : ((m : Int) % 2 == 1) = false := eqf (by omega)
        clear ho
        go_wp2
        go_round
        case rel => exact ⟨bit m, k + 1, by go_num, by rw [E2.out], hbl, by omega, Hn⟩
        case measure => simp [intOf]; omega
    · have Hf := Lib.hid (bits_last (by omega) hrun.out)
      go_wp2
      go_ret
      exact ⟨by rw [Hf.out]; rfl, rfl⟩

set_option maxRecDepth 100000 in
set_option maxHeartbeats 800000 in
theorem sumR_calls (w : World) {B n c : Nat} {A : Option Addr} {l : List UInt8} (h : Bytes w B A n l) (hn : n ≤ 140737488355328) :
    Calls Try.prog 10 #[.slice A n c] w fun e w' => e = .returned (.int .u32 ((crcOf l : Nat) : Int)) ∧ w = w' := by
  have hl := h.len
  have h1 : ¬ IntKind.u32.signed = true := by decide
  go_enter Try.func10, Try.ntmps10
  go_wp2
  go_loop [3, 8] (fun r i => ∃ (m k : Nat), i = .int .i64 (k : Int) ∧ r = .int .u32 (m : Int) ∧ m < 4294967296 ∧ k ≤ n ∧ Hid (crcRun m (l.drop k) = crcRun 4294967295 l)) (fun _ i => n - (intOf i).toNat)
  case atStart => exact ⟨4294967295, 0, rfl, rfl, by omega, by omega, Lib.hid rfl⟩
  case round =>
    obtain ⟨m, k, rfl, rfl, hm, hk, hrun⟩ := hrel
    by_cases hlt : k < n
    · obtain ⟨b, off, rfl, hbB, hcell⟩ := h.cell hlt
      have hck := hcell k hlt
      have hlt' : k < l.length := by omega
      have Hc := Lib.hid (crc_next' (m := m) (l := l) hlt' hrun.out)
      go_wp2_with fail
      refine (step_calls m l[k] w hm).mono ?_
      rintro en w' ⟨rfl, rfl⟩
      go_wp2
      go_round
      case rel => exact ⟨crcStep m l[k].toNat, k + 1, by go_num, rfl, crcStep_lt hm (UInt8.toNat_lt _), by omega, Hc⟩
      case measure => simp [intOf]; omega
    · have hk2 : k = n := by omega
      subst hk2
      have Hf := Lib.hid (crc_last (hl := hl) hrun.out)
      have h3 := Lib.hid (u32_not m (by omega))
      go_wp2
      go_ret
      refine ⟨?_, rfl⟩
      rw [h3.out]; unfold crcOf; rw [Hf.out]; rfl
end Go.Proofs.Ytnkflgleiofinaa
