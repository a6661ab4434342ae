/- The walk of CrcTurned: a sealed text of which bits are turned within 32 bits in a row is none. -/
import Derived.Test.YtnkflgleiofinaaCrcD
import Derived.Test.YtnkflgleiofinaaOpen
import Derived.IntWalk
namespace Go.Proofs.Ytnkflgleiofinaa.lawCrcTurned
open Go.RowKit

theorem cseal_len (l : List UInt8) : (cseal l).length = l.length + 4 := by simp [cseal, four]

theorem u32_and1 (a : Nat) (ha : a < 4294967296) : bits .and .u32 (a : Int) 1 = ((a % 2 : Nat) : Int) := by
  have h1 : ∀ n : Nat, n < 4294967296 → (BitVec.ofInt 32 (n : Int)).toNat = n := by
    intro n hn
    rw [BitVec.ofInt_natCast, BitVec.toNat_ofNat]; exact Nat.mod_eq_of_lt (by omega)
  show IntKind.u32.wrap ((BitVec.ofInt 32 (a : Int) &&& BitVec.ofInt 32 ((1 : Nat) : Int)).toNat : Int) = _
  rw [BitVec.toNat_and, h1 a ha, h1 1 (by omega), IntKind.wrap_u32, show (1 : Nat) = 2 ^ 1 - 1 from rfl, Nat.and_two_pow_sub_one_eq_mod]
  omega
theorem bit_test (t k : Nat) (ht : t < 4294967296) : bits .and .u32 ((t : Int) / 2 ^ k) 1 = ((t / 2 ^ k % 2 : Nat) : Int) := by
  have e : (t : Int) / 2 ^ k = ((t / 2 ^ k : Nat) : Int) := by simp
  rw [e]
  exact u32_and1 _ (Nat.lt_of_le_of_lt (Nat.div_le_self _ _) ht)
theorem own_bytesN {w : World} {base n : Nat} {e : TypeId} {A : Option Addr} {c : Nat} {l : List UInt8} (h : w.ownsRow base e 1 (.slice A n c) n (l.map byteV)) (hn : l.length = n) : Bytes w w.heap.size A n l := by
  subst hn; exact own_bytes h
theorem own_some {w : World} {base n c : Nat} {e : TypeId} {A : Option Addr} {xs : List Value} (h : w.ownsRow base e 1 (.slice A n c) n xs) (hn : 0 < n) : ∃ g, A = some ⟨g, 0, none⟩ ∧ base ≤ g := by
  rcases h.2 with ⟨_, h0⟩ | ⟨g, cap, cur, hv, hb, _⟩
  · omega
  · injection hv with h1 _ _
    exact ⟨g, h1, hb⟩
theorem at_in (x : Int) {s : Nat} (h1 : 0 < s) (h2 : s ≤ 4100) : ∃ P : Nat, wrap64 ((IntKind.u64.wrap x).tmod (8 * (s : Int))) = (P : Int) ∧ P < 8 * s := by
  have h0 : 0 ≤ IntKind.u64.wrap x := by rw [IntKind.wrap_u64]; omega
  have h3 : (IntKind.u64.wrap x).tmod (8 * (s : Int)) = IntKind.u64.wrap x % (8 * (s : Int)) := Int.tmod_eq_emod_of_nonneg h0
  have h4 := Int.emod_nonneg (IntKind.u64.wrap x) (b := 8 * (s : Int)) (by omega)
  have h5 := Int.emod_lt_of_pos (IntKind.u64.wrap x) (b := 8 * (s : Int)) (by omega)
  rw [h3]
  refine ⟨(IntKind.u64.wrap x % (8 * (s : Int))).toNat, ?_, by omega⟩
  unfold wrap64; omega

theorem xor_byte (a r : Nat) (ha : a < 256) (hr : r < 8) : bits .xor .u8 (a : Int) (IntKind.u8.wrap (2 ^ r)) = ((a ^^^ 2 ^ r : Nat) : Int) := by
  have h1 : ∀ n : Nat, n < 256 → (BitVec.ofInt 8 (n : Int)).toNat = n := by
    intro n hn
    rw [BitVec.ofInt_natCast, BitVec.toNat_ofNat]; exact Nat.mod_eq_of_lt (by omega)
  have hp : 2 ^ r < 256 := Nat.lt_of_lt_of_le (Nat.pow_lt_pow_right (by decide) hr) (by decide)
  have e : IntKind.u8.wrap ((2 : Int) ^ r) = ((2 ^ r : Nat) : Int) := by
    have : ((2 : Int) ^ r) = ((2 ^ r : Nat) : Int) := by simp
    rw [this]
    generalize 2 ^ r = q at hp ⊢
    rw [IntKind.wrap_u8]; omega
  rw [e]
  have hx : a ^^^ 2 ^ r < 2 ^ 8 := Nat.xor_lt_two_pow (by omega) (by omega)
  show IntKind.u8.wrap ((BitVec.ofInt 8 (a : Int) ^^^ BitVec.ofInt 8 ((2 ^ r : Nat) : Int)).toNat : Int) = _
  rw [BitVec.toNat_xor, h1 a ha, h1 _ hp, IntKind.wrap_u8]
  omega
theorem xor_ofNat {a r : Nat} (ha : a < 256) (hr : r < 8) : (UInt8.ofNat (a ^^^ 2 ^ r)).toNat = a ^^^ 2 ^ r := by
  have hp : 2 ^ r < 256 := Nat.lt_of_lt_of_le (Nat.pow_lt_pow_right (by decide) hr) (by decide)
  have hx : a ^^^ 2 ^ r < 2 ^ 8 := Nat.xor_lt_two_pow (by omega) (by omega)
  rw [UInt8.toNat_ofNat']; omega
theorem xor_ofNat_int {a r : Nat} (ha : a < 256) (hr : r < 8) : ((UInt8.ofNat (a ^^^ 2 ^ r)).toNat : Int) = ((a ^^^ 2 ^ r : Nat) : Int) := by rw [xor_ofNat ha hr]
theorem set_byte (S : List UInt8) (j : Nat) {x : Int} {b : UInt8} (h : x = (b.toNat : Int)) : (S.map byteV).set j (.int .u8 x) = (S.set j b).map byteV := by
  subst h; rw [List.map_set]; rfl

set_option maxRecDepth 100000 in
set_option maxHeartbeats 2000000 in
theorem body (w : World) {B n c : Nat} {A : Option Addr} {l : List UInt8} (h : Bytes w B A n l) (hB : B ≤ w.heap.size) (hnc : n ≤ c) (hc : c ≤ 140737488351232) (x : Int) (hx : -9223372036854775808 ≤ x ∧ x ≤ 9223372036854775807) (t : Nat) (ht : t < 4294967296) :
    Calls Try.prog 6 #[.slice A n c, .int .i64 x, .int .u32 (t : Int)] w fun e w' => e = .returned (.bool true) ∧ Below w.heap.size w w' := by
  have hl := h.len
  subst hl
  by_cases hn : 4096 < l.length
  · go_enter Try.func6, Try.ntmps6
    go_wp2_with fail
    refine (lives_calls w).mono ?_
    rintro e w1 ⟨rfl, hbel1⟩
    go_wp2_with fail
    refine (lives_calls w1).mono ?_
    rintro e w2 ⟨rfl, hbel2⟩
    go_wp2
    go_ret
    exact ⟨rfl, hbel1.trans (hbel2.mono hbel1.size)⟩
  · by_cases ht0 : t = 0
    · have q : ((t : Int) == 0) = true := eqt (by omega)
      clear ht0
      go_enter Try.func6, Try.ntmps6
      go_wp2_with fail
      refine (lives_calls w).mono ?_
      rintro e w1 ⟨rfl, hbel1⟩
      go_wp2_with fail
      refine (lives_calls w1).mono ?_
      rintro e w2 ⟨rfl, hbel2⟩
      go_wp2
      go_ret
      exact ⟨rfl, hbel1.trans (hbel2.mono hbel1.size)⟩
    · have q : ((t : Int) == 0) = false := eqf (by omega)
      go_enter Try.func6, Try.ntmps6
      go_wp2_with fail
      refine (lives_calls w).mono ?_
      rintro e w1 ⟨rfl, hbel1⟩
      have h1 := h.below (hbel1.mono hB)
      have s1 := hbel1.size
      go_wp2_with fail
      refine (seal_calls w1 h1 (by omega) hnc (by omega) (by omega)).mono ?_
      rintro e w2 he
      obtain ⟨A2, c2, rfl, hc2, hm2, hb2, hbel2, hown2⟩ := he.opened
      clear he
      have s2 := hbel2.size
      have Hsl := Lib.hid (cseal_len l)
      have hsl1 : 4 ≤ (cseal l).length := by rw [cseal_len]; omega
      have hsl2 : (cseal l).length ≤ 4100 := by rw [cseal_len]; omega
      have hsn : (((cseal l).length : Int) != (l.length : Int) + 4) = false := nef (by rw [cseal_len]; omega)
      have hsealed := sealed_cseal l
      generalize cseal l = s at *
      obtain ⟨g, rfl, hg1⟩ := own_some hown2 (by omega)
      go_wp2_with fail
      obtain ⟨P, hP, hPl⟩ := at_in x (s := s.length) (by omega) hsl2
      generalize wrap64 ((IntKind.u64.wrap x).tmod (8 * (s.length : Int))) = p at *
      subst hP
      go_loopw [9, 10] (fun b i wr => ∃ (k : Nat) (S : List UInt8), i = .int .i64 (k : Int) ∧ b = .bool (decide (t % 2 ^ k ≠ 0)) ∧ k ≤ 32 ∧ P + k ≤ 8 * s.length ∧ Hid (S.length = s.length) ∧ Hid (num S = num s ^^^ (2 ^ P * (t % 2 ^ k))) ∧ wr.ownsRow w1.heap.size 5 1 (.slice (some ⟨g, 0, none⟩) s.length c2) s.length (S.map byteV) ∧ Below w1.heap.size w1 wr) (fun _ i _ => 32 - (intOf i).toNat)
      case atStart => exact ⟨0, s, rfl, by simp [Nat.mod_one], by omega, by omega, Lib.hid rfl, Lib.hid (by simp [Nat.mod_one]), hown2, hbel2⟩
      case round =>
        obtain ⟨k, S, rfl, rfl, hk, hPk, HS, HN, hown, hbel⟩ := hrel
        by_cases hlt : k < 32 ∧ P + k < 8 * s.length
        · have l1 : (k : Int) < 32 := by omega
          have l2 : (k : Int) < 8 * (s.length : Int) - (P : Int) := by omega
          obtain ⟨hk32, hPk2⟩ := hlt
          have hb := bit_test t k ht
          by_cases hbit : t / 2 ^ k % 2 = 1
          · have qb : (bits .and .u32 ((t : Int) / 2 ^ k) 1 == 1) = true := by rw [hb]; exact eqt (by omega)
            clear hb
            have hJ : (P + k) / 8 < s.length := by omega
            have hJS : (P + k) / 8 < S.length := by rw [HS.out]; exact hJ
            have hcell : wr.cell? ⟨g, (P + k) / 8, none⟩ = some (.int .u8 ((S[(P + k) / 8]'hJS).toNat : Int)) := by
              rw [hown.cellAt _ (by omega), List.getElem?_map, List.getElem?_eq_getElem hJS]; rfl
            have hfro := hown.frozenAt ((P + k) / 8)
            have i1 : (0 : Int) ≤ ((P : Int) + (k : Int)) / 8 := by omega
            have i2 : ((P : Int) + (k : Int)) / 8 < (s.length : Int) := by omega
            have i4 : (0 : Int) ≤ ((P : Int) + (k : Int)) % 8 := by omega
            have i5 : (((P + k) / 8 : Nat) : Int) < (s.length : Int) := by omega
            go_wp2_with fail
            have e0 : IntKind.i64.wrap ((P : Int) + (k : Int)) = (P : Int) + (k : Int) := IntWalk.i64_in _ (by omega)
            have e1 : IntKind.i64.wrap (((P : Int) + (k : Int)).tdiv 8) = ((P : Int) + (k : Int)) / 8 := IntWalk.i64_quo _ _ (by omega)
            have e2 : ((P : Int) + (k : Int)).tmod 8 = ((P : Int) + (k : Int)) % 8 := IntWalk.rem_in _ _ (by omega)
            have e3 : IntKind.i64.wrap (((P : Int) + (k : Int)) % 8) = ((P : Int) + (k : Int)) % 8 := IntWalk.i64_in _ (by omega)
            have e4 : (((P : Int) + (k : Int)) / 8).toNat = (P + k) / 8 := by omega
            have e00 : (0 : Int) ≤ (P : Int) + (k : Int) := by omega
            have e5 : (((P : Int) + (k : Int)) % 8).toNat = (P + k) % 8 := by omega
            have hxb := Lib.hid (xor_byte _ _ (UInt8.toNat_lt (S[(P + k) / 8]'hJS)) (show (P + k) % 8 < 8 by omega))
            have hst := hown.stored ((P + k) / 8) (.int .u8 (bits .xor .u8 ((S[(P + k) / 8]'hJS).toNat : Int) (IntKind.u8.wrap (2 ^ ((P + k) % 8)))))
            have hNN := num_set S ((P + k) / 8) ((P + k) % 8) hJS (by omega) (UInt8.ofNat ((S[(P + k) / 8]'hJS).toNat ^^^ 2 ^ ((P + k) % 8))) (xor_ofNat (UInt8.toNat_lt _) (by omega))
            rw [HN.out, show 8 * ((P + k) / 8) + (P + k) % 8 = P + k by omega, num_step hbit] at hNN
            have hset := set_byte S ((P + k) / 8) (x := bits .xor .u8 ((S[(P + k) / 8]'hJS).toNat : Int) (IntKind.u8.wrap (2 ^ ((P + k) % 8)))) (b := UInt8.ofNat ((S[(P + k) / 8]'hJS).toNat ^^^ 2 ^ ((P + k) % 8))) (by rw [hxb.out]; exact (xor_ofNat_int (UInt8.toNat_lt _) (by omega)).symm)
            have Hset := Lib.hid hset
            have HNN := Lib.hid hNN
            have Hn2 := Lib.hid (mod_new hbit)
            have Hst := Lib.hid hst
            clear hset hNN hst hbit
            go_still_tail 14, (by kernel_rfl)
            clear e0 e1 e2 e3
            go_wp2
            have h1 := Hst.out.1
            rw [Hset.out] at h1
            go_roundw
            case rel => exact ⟨k + 1, S.set ((P + k) / 8) (UInt8.ofNat ((S[(P + k) / 8]'hJS).toNat ^^^ 2 ^ ((P + k) % 8))), by go_num, by simp [Hn2.out], by omega, by omega, Lib.hid (by rw [List.length_set, HS.out]), Lib.hid HNN.out, h1, ((below_drewN_ hbel 1).setCell (by simpa using hg1) _)⟩
            case measure => simp [intOf]; omega
          · have qb : (bits .and .u32 ((t : Int) / 2 ^ k) 1 == 1) = false := by rw [hb]; exact eqf (by omega)
            have hm := Lib.hid (mod_same (t := t) (i := k) (by omega))
            clear hb hbit
            go_wp2
            go_roundw
            case rel => exact ⟨k + 1, S, by go_num, by rw [hm.out], by omega, by omega, HS, by rw [hm.out]; exact HN, hown, hbel⟩
            case measure => simp [intOf]; omega
        · have hend : (32 : Int) ≤ (k : Int) ∨ ((k : Int) < 32 ∧ 8 * (s.length : Int) - (P : Int) ≤ (k : Int)) := by omega
          have hE : t % 2 ^ k < 2 ^ 32 := Nat.lt_of_le_of_lt (Nat.mod_le _ _) (by omega)
          have hbu := burst (s := s) (s' := S) (at_ := P) hsl1 HS.out (by omega) hE HN.out hsealed
          have hbyS := own_bytesN hown HS.out
          have hSl := HS.out
          clear hlt
          by_cases hz : t % 2 ^ k = 0
          · have hsS := hbu.2 hz
            have Ho := Lib.hid (copen_good (s := S) (by rw [hSl]; omega) ((four_iff (by rw [hSl]; omega)).2 hsS))
            have d1 : decide (t % 2 ^ k = 0) = true := dct hz
            clear hz hbu hsS hSl
            rcases hend with hend | ⟨hend, hend2⟩
            all_goals
              go_wp2_with fail
              refine (open_calls wr hbyS (Nat.le_refl _) (by omega) (by omega)).mono ?_
              rintro e w3 he3
              rw [Ho.out] at he3
              obtain ⟨A3, c3, rfl, -, -, -, hbel3, -⟩ := he3.opened
              clear he3
              go_wp2
              go_ret
              exact ⟨rfl, hbel1.trans ((hbel.mono (by omega)).trans (hbel3.mono (by have := hbel.size; omega)))⟩
          · have hsS : ¬ sealed S := fun h => hz (hbu.1 h)
            have Ho := Lib.hid (copen_bad (s := S) (by rw [hSl]; omega) (fun h => hsS ((four_iff (by rw [hSl]; omega)).1 h)))
            have d1 : decide (t % 2 ^ k = 0) = false := dcf hz
            clear hz hbu hsS hSl
            rcases hend with hend | ⟨hend, hend2⟩
            all_goals
              go_wp2_with fail
              refine (open_calls wr hbyS (Nat.le_refl _) (by omega) (by omega)).mono ?_
              rintro e w3 he3
              rw [Ho.out] at he3
              obtain ⟨A3, c3, rfl, -, -, -, hbel3, -⟩ := he3.opened
              clear he3
              go_wp2
              go_ret
              exact ⟨rfl, hbel1.trans ((hbel.mono (by omega)).trans (hbel3.mono (by have := hbel.size; omega)))⟩

theorem walk {H : Type} {enc : TypeId × Value → H} {W : World} {base : Nat} {v0 v1 v2 : Value} {d0 d1 d2 : DataW H} {p0 p1 p2 : List MemPlace} (g0 : Arg enc Try.prog W base 24 v0 d0 p0) (g1 : Arg enc Try.prog W base 3 v1 d1 p1) (g2 : Arg enc Try.prog W base 25 v2 d2 p2) :
    Calls Try.prog 6 #[v0, v1, v2] W fun e w' => e = .returned (.bool true) ∧ Below W.heap.size W w' := by
  obtain ⟨A, n, c, l, rfl, hn, hc, hb⟩ := g0.bytes Try.underlying24 Try.underlying5 (by kernel_rfl) (by kernel_rfl)
  obtain ⟨x, rfl, -, hx⟩ := g1.int Try.underlying3
  obtain ⟨y, rfl, -, hy⟩ := g2.int Try.underlying25
  have h2 : IntKind.u32.min = 0 := rfl
  have h3 : IntKind.u32.max = 4294967295 := rfl
  simp only [Lit.wf, Bool.and_eq_true, decide_eq_true_eq, h2, h3] at hy
  obtain ⟨t, rfl⟩ := Int.eq_ofNat_of_zero_le hy.1
  exact body W hb (Nat.le_refl _) hn hc x (wf_i64 hx) t (by omega)
end Go.Proofs.Ytnkflgleiofinaa.lawCrcTurned
