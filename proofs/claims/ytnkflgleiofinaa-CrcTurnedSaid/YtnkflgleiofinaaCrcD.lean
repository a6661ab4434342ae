/- Contracts of the package crc (chapter 3): Open of both. -/
import Derived.Test.YtnkflgleiofinaaCrcC
namespace Go.Proofs.Ytnkflgleiofinaa
open Go.RowKit

/-- What an Open gives: the text as a row of the call's own (or nil), and the error. -/
def RetOpen (w : World) (r : List UInt8 × Nat) (e : Ending) (w' : World) : Prop := ∃ v, e = .returned (.tuple #[v, .int .i64 (r.2 : Int)]) ∧ w'.ownsRow w.heap.size 5 1 v r.1.length (r.1.map byteV) ∧ Below w.heap.size w w'
theorem RetOpen.opened {w w' : World} {r : List UInt8 × Nat} {e : Ending} (h : RetOpen w r e w') :
    ∃ A c, e = .returned (.tuple #[.slice A r.1.length c, .int .i64 (r.2 : Int)]) ∧ r.1.length ≤ c ∧ c ≤ maxLen ∧ Bytes w' w'.heap.size A r.1.length r.1 ∧ Below w.heap.size w w' ∧ w'.ownsRow w.heap.size 5 1 (.slice A r.1.length c) r.1.length (r.1.map byteV) := by
  obtain ⟨v, rfl, h2, h3⟩ := h
  obtain ⟨A, c, rfl, k1, k2, k3⟩ := own_slice h2
  exact ⟨A, c, rfl, k1, k2, own_bytes h2, h3, h2⟩

theorem copen_short {s : List UInt8} (h : s.length < 4) : copen s = ([], 3) := by unfold copen; rw [if_pos h]
theorem copen_good {s : List UInt8} (h : 4 ≤ s.length) (h2 : s.drop (s.length - 4) = four (crcOf (s.take (s.length - 4)))) : copen s = (s.take (s.length - 4), 0) := by unfold copen; rw [if_neg (by omega), if_pos h2]
theorem copen_bad {s : List UInt8} (h : 4 ≤ s.length) (h2 : ¬ s.drop (s.length - 4) = four (crcOf (s.take (s.length - 4)))) : copen s = ([], 6) := by unfold copen; rw [if_neg (by omega), if_neg h2]
theorem cseal_eq {s : List UInt8} : (cseal (s.take (s.length - 4)) == s) = decide (s.drop (s.length - 4) = four (crcOf (s.take (s.length - 4)))) := by
  have e : cseal (s.take (s.length - 4)) = s ↔ s.drop (s.length - 4) = four (crcOf (s.take (s.length - 4))) := by
    unfold cseal
    constructor
    · intro h
      conv at h => rhs; rw [← List.take_append_drop (s.length - 4) s]
      exact (List.append_cancel_left h).symm
    · intro h
      rw [← h, List.take_append_drop]
  by_cases h : cseal (s.take (s.length - 4)) = s
  · rw [decide_eq_true (e.1 h), beq_iff_eq]; exact h
  · rw [decide_eq_false (fun h2 => h (e.2 h2))]
    exact beq_eq_false_iff_ne.2 h

set_option maxRecDepth 100000 in
set_option maxHeartbeats 800000 in
theorem openR_calls (w : World) {B n c : Nat} {A : Option Addr} {s : List UInt8} (h : Bytes w B A n s) (hB : B ≤ w.heap.size) (hnc : n ≤ c) (hn : n ≤ 140737488350000) :
    Calls Try.prog 15 #[.slice A n c] w (RetOpen w (copen s)) := by
  have hl := h.len
  subst hl
  by_cases hs : s.length < 4
  · have H := Lib.hid (copen_short hs)
    go_enter Try.func15, Try.ntmps15
    go_wp2
    go_ret2
    rw [H.out]
    exact ⟨.slice none 0 0, rfl, World.ownsRow_nil _ _ _ _, Below.refl _ _⟩
  · have hm : (s.length : Int) - 4 = ((s.length - 4 : Nat) : Int) := by omega
    have hlt : (s.take (s.length - 4)).length = s.length - 4 := by rw [List.length_take]; omega
    have ht := h.taken (k := s.length - 4) (by omega)
    have Ht := Lib.hid hlt
    have Hm := Lib.hid hm
    clear hlt hm
    go_enter Try.func15, Try.ntmps15
    go_wp2_with fail
    refine (sealR_calls w ht hB (by omega)).mono ?_
    rintro e w1 he
    obtain ⟨A1, c1, rfl, hc1, hm1, hb1, hbel1, _⟩ := he.opened
    clear he
    have s1 := hbel1.size
    have h1 := h.below (hbel1.mono hB)
    have ht1 := ht.below (hbel1.mono hB)
    have E := Lib.hid (cseal_eq (s := s))
    go_wp2_with fail
    refine (same_calls w1 (c1 := c1) (c2 := c) hb1 h1).mono ?_
    rintro e w' ⟨rfl, rfl⟩
    by_cases hg : s.drop (s.length - 4) = four (crcOf (s.take (s.length - 4)))
    · have q : (cseal (s.take (s.length - 4)) == s) = true := by rw [E.out]; exact decide_eq_true hg
      have H := Lib.hid (copen_good (by omega) hg)
      clear hg
      go_wp2_with fail
      refine (twin_calls w1 ht1 (by omega) (by omega)).mono ?_
      rintro e w2 he
      obtain ⟨v, rfl, hown, hbel2⟩ := he
      have hown' := own_base hown s1
      go_wp2
      go_ret2
      rw [H.out]
      exact ⟨v, rfl, hown', hbel1.trans (hbel2.mono s1)⟩
    · have q : (cseal (s.take (s.length - 4)) == s) = false := by rw [E.out]; exact decide_eq_false hg
      have H := Lib.hid (copen_bad (by omega) hg)
      clear hg
      go_wp2
      go_ret2
      rw [H.out]
      exact ⟨.slice none 0 0, rfl, World.ownsRow_nil _ _ _ _, hbel1⟩

theorem tk_next {T F : List UInt8} {k : Nat} (h : T.take k = F.take k) (hT : k < T.length) (hF : k < F.length) (he : T[k] = F[k]) : T.take (k + 1) = F.take (k + 1) := by
  rw [List.take_succ_eq_append_getElem hT, List.take_succ_eq_append_getElem hF, h, he]
theorem four_0 {C : Nat} (_ : C < 2 ^ 32) : (((four C)[0]'(by show 0 < 4; omega)).toNat : Int) = (C : Int) % 256 := by
  show ((UInt8.ofNat C).toNat : Int) = _
  rw [UInt8.toNat_ofNat']; omega
theorem four_1 {C : Nat} (_ : C < 2 ^ 32) : (((four C)[1]'(by show 1 < 4; omega)).toNat : Int) = (C : Int) / 256 % 256 := by
  show ((UInt8.ofNat (C / 256)).toNat : Int) = _
  rw [UInt8.toNat_ofNat']; omega
theorem four_2 {C : Nat} (_ : C < 2 ^ 32) : (((four C)[2]'(by show 2 < 4; omega)).toNat : Int) = (C : Int) / 65536 % 256 := by
  show ((UInt8.ofNat (C / 65536)).toNat : Int) = _
  rw [UInt8.toNat_ofNat']; omega
theorem four_3 {C : Nat} (_ : C < 2 ^ 32) : (((four C)[3]'(by show 3 < 4; omega)).toNat : Int) = (C : Int) / 16777216 := by
  show ((UInt8.ofNat (C / 16777216)).toNat : Int) = _
  rw [UInt8.toNat_ofNat']; omega

set_option maxRecDepth 100000 in
set_option maxHeartbeats 2000000 in
theorem open_calls (w : World) {B n c : Nat} {A : Option Addr} {s : List UInt8} (h : Bytes w B A n s) (hB : B ≤ w.heap.size) (hnc : n ≤ c) (hn : n ≤ 140737488350000) :
    Calls Try.prog 14 #[.slice A n c] w (RetOpen w (copen s)) := by
  have hl := h.len
  subst hl
  by_cases hs : s.length < 4
  · have H := Lib.hid (copen_short hs)
    go_enter Try.func14, Try.ntmps14
    go_wp2
    go_ret2
    rw [H.out]
    exact ⟨.slice none 0 0, rfl, World.ownsRow_nil _ _ _ _, Below.refl _ _⟩
  · have ht := h.taken (k := s.length - 4) (by omega)
    have hd := h.cutted (k := s.length - 4) (c := c) (by omega) hnc
    obtain ⟨b, off, rfl, hbB, hx0⟩ := h.cell (i := 0) (by omega)
    clear hx0
    rw [if_neg (by omega), show s.length - (s.length - 4) = 4 by omega, Option.map_some, addr_add] at hd
    have q4 : s.length - (s.length - 4) = 4 := by omega
    have Q4 := Lib.hid q4
    clear q4
    go_enter Try.func14, Try.ntmps14
    go_wp2_with fail
    refine (sum1_calls w ht hB (by omega) (by omega)).mono ?_
    rintro e w1 ⟨rfl, hbel1⟩
    have s1 := hbel1.size
    have ht1 := ht.below (hbel1.mono hB)
    have hd1 := hd.below (hbel1.mono hB)
    have hC := crcOf_lt (s.take (s.length - 4))
    clear ht hd h
    generalize hCC : crcOf (s.take (s.length - 4)) = C at *
    have HC := Lib.hid hCC
    clear hCC
    generalize hT : s.drop (s.length - 4) = T at *
    have HT := Lib.hid hT
    clear hT
    go_wp2_with fail
    go_loop [22] (fun i => ∃ k : Nat, i = .int .i64 (k : Int) ∧ k ≤ 4 ∧ Hid (T.take k = (four C).take k)) (fun i => 4 - (intOf i).toNat)
    case atStart => exact ⟨0, rfl, by omega, Lib.hid rfl⟩
    case round =>
      obtain ⟨k, rfl, hk, hrun⟩ := hrel
      by_cases hlt : k < 4
      · obtain ⟨b', off', e', _, hcell⟩ := hd1.cell hlt
        injection e' with e'; injection e' with e1 e2; subst e1 e2
        have hck := hcell k hlt
        have hkT : k < T.length := by have := hd1.len; omega
        obtain rfl | rfl | rfl | rfl : k = 0 ∨ k = 1 ∨ k = 2 ∨ k = 3 := by omega
        · rw [Nat.add_zero] at hck
          by_cases ht : T[0] = (four C)[0]'(by show 0 < 4; omega)
          · have q : ((T[0].toNat : Int) != (C : Int) % 256) = false := nef (by rw [ht]; exact four_0 hC)
            have Hn := Lib.hid (tk_next hrun.out hkT (show 0 < 4 by omega) ht)
            clear ht
            go_wp2
            go_round
            case rel => exact ⟨1, by go_num, by omega, Hn⟩
            case measure => simp [intOf]
          · have q : ((T[0].toNat : Int) != (C : Int) % 256) = true := net (fun h => ht (UInt8.toNat_inj.1 (by have := four_0 hC; omega)))
            have H := Lib.hid (copen_bad (s := s) (by omega) (by rw [HT.out, HC.out]; intro h; exact ht (by simp only [h])))
            clear ht
            go_wp2
            go_ret2
            rw [H.out]
            exact ⟨.slice none 0 0, rfl, World.ownsRow_nil _ _ _ _, hbel1⟩
        · by_cases ht : T[1] = (four C)[1]'(by show 1 < 4; omega)
          · have q : ((T[1].toNat : Int) != (C : Int) / 256 % 256) = false := nef (by rw [ht]; exact four_1 hC)
            have Hn := Lib.hid (tk_next hrun.out hkT (show 1 < 4 by omega) ht)
            clear ht
            go_wp2
            go_round
            case rel => exact ⟨2, by go_num, by omega, Hn⟩
            case measure => simp [intOf]
          · have q : ((T[1].toNat : Int) != (C : Int) / 256 % 256) = true := net (fun h => ht (UInt8.toNat_inj.1 (by have := four_1 hC; omega)))
            have H := Lib.hid (copen_bad (s := s) (by omega) (by rw [HT.out, HC.out]; intro h; exact ht (by simp only [h])))
            clear ht
            go_wp2
            go_ret2
            rw [H.out]
            exact ⟨.slice none 0 0, rfl, World.ownsRow_nil _ _ _ _, hbel1⟩
        · by_cases ht : T[2] = (four C)[2]'(by show 2 < 4; omega)
          · have q : ((T[2].toNat : Int) != (C : Int) / 65536 % 256) = false := nef (by rw [ht]; exact four_2 hC)
            have Hn := Lib.hid (tk_next hrun.out hkT (show 2 < 4 by omega) ht)
            clear ht
            go_wp2
            go_round
            case rel => exact ⟨3, by go_num, by omega, Hn⟩
            case measure => simp [intOf]
          · have q : ((T[2].toNat : Int) != (C : Int) / 65536 % 256) = true := net (fun h => ht (UInt8.toNat_inj.1 (by have := four_2 hC; omega)))
            have H := Lib.hid (copen_bad (s := s) (by omega) (by rw [HT.out, HC.out]; intro h; exact ht (by simp only [h])))
            clear ht
            go_wp2
            go_ret2
            rw [H.out]
            exact ⟨.slice none 0 0, rfl, World.ownsRow_nil _ _ _ _, hbel1⟩
        · by_cases ht : T[3] = (four C)[3]'(by show 3 < 4; omega)
          · have q : ((T[3].toNat : Int) != (C : Int) / 16777216) = false := nef (by rw [ht]; exact four_3 hC)
            have Hn := Lib.hid (tk_next hrun.out hkT (show 3 < 4 by omega) ht)
            clear ht
            go_wp2
            go_round
            case rel => exact ⟨4, by go_num, by omega, Hn⟩
            case measure => simp [intOf]
          · have q : ((T[3].toNat : Int) != (C : Int) / 16777216) = true := net (fun h => ht (UInt8.toNat_inj.1 (by have := four_3 hC; omega)))
            have H := Lib.hid (copen_bad (s := s) (by omega) (by rw [HT.out, HC.out]; intro h; exact ht (by simp only [h])))
            clear ht
            go_wp2
            go_ret2
            rw [H.out]
            exact ⟨.slice none 0 0, rfl, World.ownsRow_nil _ _ _ _, hbel1⟩
      · have hk4 : k = 4 := by omega
        subst hk4
        have hTF : T = four C := by
          have h1 := hrun.out
          rw [List.take_of_length_le (by have := hd1.len; omega), List.take_of_length_le (by show 4 ≤ 4; omega)] at h1
          exact h1
        have H := Lib.hid (copen_good (s := s) (by omega) (by rw [HT.out, HC.out]; exact hTF))
        clear hTF
        have htl : (s.take (s.length - 4)).length = s.length - 4 := by rw [List.length_take]; omega
        have Htl := Lib.hid htl
        clear htl
        have hs4 : w.heap.size ≤ (w1.alloc (.cells #[] 5)).heap.size := by rw [size_alloc_]; omega
        have hb4 : Below w.heap.size w (w1.alloc (.cells #[] 5)) := hbel1.alloc s1 _
        have ht2 := ht1.below ((Below.refl B w1).alloc (by omega) (.cells #[] 5))
        go_wp2_with (at_builtin; go_must (refine wpList_append_any _ rfl (.tmp 35) (.tmp 38) _ rfl w.heap.size 5 _ 1 1 Try.underlying24 Try.infoU8 rfl (by omega) _ _ _ rfl (World.ownsRow_made w1 #[] 0 s1 (Nat.zero_le _) rfl) B _ (s.length - 4) c ((s.take (s.length - 4)).map byteV) rfl ht2.2 (byteV_one _) (by unfold maxLen; omega) (by omega) hs4 ?_))
        intro v' w5 hown5 hbel5 _ _
        have hbel6 := hb4.trans hbel5
        clear hbel5 hb4
        go_wp2
        go_ret2
        rw [H.out]
        refine ⟨v', rfl, ?_, hbel6⟩
        rw [Htl.out]
        simpa using hown5
end Go.Proofs.Ytnkflgleiofinaa
