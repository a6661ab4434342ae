/- Reading a byte: read of the reference (chapter 8). -/
import Derived.Test.YtbnlfljlomhngaaProg
import Derived.Test.YtbnlfljlomhngaaParD
import Derived.Test.YtbnlfljlomhngaaLabS
namespace Go.Proofs.Ytbnlfljlomhngaa
open Go.RowKit

def ReadRet (S : List UInt8) (p : Nat) (e : Ending) : Prop :=
  (∃ c : UInt8, e = .returned (.tuple #[.int .u8 (c.toNat : Int), .int .i64 ((escB c).length : Int)]) ∧ S.drop p = escB c ++ S.drop (p + (escB c).length)) ∨
  (e = .returned (.tuple #[.int .u8 0, .int .i64 0]) ∧ NoRd (S.drop p))
theorem ext_eq1 {s : ByteArray} {p : Nat} (h : p < s.size) : ((⟨(escB s[p]).toArray⟩ : ByteArray).toList == (s.extract p (p + 1)).toList) = plainB s[p] := by
  rw [bytes_eqd]
  have hx : (s.extract p (p + 1)).data.toList = [s[p]] := by
    rw [ext_list, drop8 h, show p + 1 - p = 1 by omega, at8_eq h]
    rfl
  cases hp : plainB s[p]
  · refine dcf fun e => ?_
    have := congrArg (fun z => z.data.toList.length) e
    simp only [hx] at this
    rw [escB_hex hp] at this
    simp at this
  · refine dct (bytes_ext ?_)
    rw [hx, escB_plain hp]
theorem ext_eq3 {s : ByteArray} {p : Nat} (h : p + 3 ≤ s.size) {x : UInt8} (hx : plainB x = false) : ((s.extract p (p + 3)).toList == (⟨(escB x).toArray⟩ : ByteArray).toList) = true ↔ s.data.toList.drop p = escB x ++ s.data.toList.drop (p + 3) := by
  rw [bytes_eqd, decide_eq_true_iff]
  have hd : (s.extract p (p + 3)).data.toList = (s.data.toList.drop p).take 3 := by rw [ext_list, show p + 3 - p = 3 by omega]
  constructor
  · intro e
    have e2 := congrArg (fun z => z.data.toList) e
    simp only [hd] at e2
    have e3 : s.data.toList.drop (p + 3) = (s.data.toList.drop p).drop 3 := by rw [List.drop_drop]
    rw [e3]
    conv => lhs; rw [← List.take_append_drop 3 (s.data.toList.drop p), e2]
  · intro e
    refine bytes_ext ?_
    rw [hd, e]
    have : (escB x).length = 3 := by rw [escB_len13, hx]; rfl
    rw [List.take_append_of_le_length (by omega), List.take_of_length_le (by omega)]

set_option maxRecDepth 100000 in
set_option maxHeartbeats 3200000 in
theorem read_calls (s : ByteArray) (p : Nat) (w : World) (hp : p < s.size) (hs : s.size ≤ 1000000) :
    Calls Try.prog 40 #[.string s, .int .i64 (p : Int)] w fun e w' => ReadRet s.data.toList p e ∧ Below w.heap.size w w' := by
  have HSZ : Hid (s.data.toList.length = s.size) := Lib.hid (by rw [Array.length_toList]; rfl)
  have Hdr := Lib.hid (drop8 hp)
  have Hc := Lib.hid (at8_eq hp)
  by_cases h92 : ((s[p].toNat : Int) == 92) = true
  · have hn : ((s[p].toNat : Int) != 92) = false := by simpa using h92
    have g92 : at8 s p = 92 := by
      rw [← Hc.out]
      rw [beq_iff_eq] at h92
      exact UInt8.toNat_inj.1 (by show s[p].toNat = 92; omega)
    have Hd : Hid (s.data.toList.drop p = 92 :: s.data.toList.drop (p + 1)) := Lib.hid (by rw [Hdr.out, g92])
    clear g92 h92
    go_enter Try.func40, Try.ntmps40
    go_wp2
    go_loopw [6] (fun i wr => ∃ k : Nat, k ≤ 256 ∧ i = .int .i64 (k : Int) ∧ Hid (∀ j, j < k → ∀ r, s.data.toList.drop p ≠ escB (UInt8.ofNat j) ++ r) ∧ Below w.heap.size w wr) (fun i _ => 256 - (intOf i).toNat)
    case atStart => exact ⟨0, Nat.zero_le _, rfl, Lib.hid fun j hj => absurd hj (by omega), Below.refl _ _⟩
    case round =>
      obtain ⟨k, hk, rfl, HK, hbel⟩ := hrel
      have hsz := hbel.size
      by_cases hlt : k < 256
      · have hx : ((UInt8.ofNat k).toNat : Int) = (k : Int) := by rw [UInt8.toNat_ofNat']; omega
        have k0 : IntKind.u8.wrap (k : Int) = (k : Int) := by rw [IntKind.wrap_u8]; omega
        have hB := fun W => byteR_calls (UInt8.ofNat k) W
        rw [hx] at hB
        have Hnext : Hid ((∀ r, s.data.toList.drop p ≠ escB (UInt8.ofNat k) ++ r) → ∀ j, j < k + 1 → ∀ r, s.data.toList.drop p ≠ escB (UInt8.ofNat j) ++ r) := Lib.hid fun h j hj r => by
          rcases Nat.lt_or_ge j k with h1 | h1
          · exact HK.out j h1 r
          · obtain rfl : j = k := by omega
            exact h r
        have hln := escB_len13 (UInt8.ofNat k)
        have hmk := mk_size (escB (UInt8.ofNat k))
        by_cases hpl : plainB (UInt8.ofNat k) = true
        · have HN := Lib.hid (Hnext.out fun r e => by
            rw [Hd.out] at e
            rw [(esc92 e).1] at hpl
            cases hpl)
          rw [hpl, if_pos rfl] at hln
          have z1 : ((⟨(escB (UInt8.ofNat k)).toArray⟩ : ByteArray).size : Int) = 1 := by omega
          have HB := Lib.hid hB
          clear hB hln hmk hpl hx
          generalize (⟨(escB (UInt8.ofNat k)).toArray⟩ : ByteArray) = bw at *
          have z2 : ((bw.size : Int) == 3) = false := eqf (by omega)
          go_wp2_with fail
          refine (HB.out _).mono ?_
          rintro e w1 ⟨rfl, hb1⟩
          go_wp2
          go_roundw
          case rel => exact ⟨k + 1, by omega, by go_num, HN, hbel.trans (hb1.mono hsz)⟩
          case measure => simp [intOf]; omega
        · have hpl' : plainB (UInt8.ofNat k) = false := by simpa using hpl
          rw [hpl', if_neg (by simp)] at hln
          have z1 : ((⟨(escB (UInt8.ofNat k)).toArray⟩ : ByteArray).size : Int) = 3 := by omega
          have HB := Lib.hid hB
          by_cases hroom : p + 3 ≤ s.size
          · have Hiff := Lib.hid (ext_eq3 hroom hpl')
            have i3 : (3 : Int) ≤ (s.size : Int) - (p : Int) := by omega
            have d3 : decide ((3 : Int) ≤ (s.size : Int) - (p : Int)) = true := dct i3
            have e3 : ((p : Int) + 3).toNat = p + 3 := by omega
            have i4 : (p : Int) + 3 ≤ (s.size : Int) := by omega
            by_cases hq : ((s.extract p (p + 3)).toList == (⟨(escB (UInt8.ofNat k)).toArray⟩ : ByteArray).toList) = true
            · have HR : Hid (s.data.toList.drop p = escB (UInt8.ofNat k) ++ s.data.toList.drop (p + (escB (UInt8.ofNat k)).length)) := Lib.hid (by rw [hln]; exact Hiff.out.1 hq)
              have HL3 := Lib.hid hln
              have HX := Lib.hid hx
              clear hB hln hmk hpl hpl' hx Hiff i3
              generalize (⟨(escB (UInt8.ofNat k)).toArray⟩ : ByteArray) = bw at *
              have z2 : ((bw.size : Int) == 3) = true := eqt (by omega)
              go_wp2_with fail
              refine (HB.out _).mono ?_
              rintro e w1 ⟨rfl, hb1⟩
              go_wp2
              go_ret2
              exact ⟨.inl ⟨UInt8.ofNat k, by rw [HL3.out, HX.out]; rfl, HR.out⟩, hbel.trans (hb1.mono hsz)⟩
            · have HN := Lib.hid (Hnext.out fun r e => hq (Hiff.out.2 (by
                have e4 := congrArg (List.drop 3) e
                rw [List.drop_drop, List.drop_left' hln] at e4
                rw [e4]; exact e)))
              have hq' : ((s.extract p (p + 3)).toList == (⟨(escB (UInt8.ofNat k)).toArray⟩ : ByteArray).toList) = false := by simpa using hq
              clear hB hln hmk hpl hpl' hx Hiff hq i3
              generalize (⟨(escB (UInt8.ofNat k)).toArray⟩ : ByteArray) = bw at *
              have z2 : ((bw.size : Int) == 3) = true := eqt (by omega)
              go_wp2_with fail
              refine (HB.out _).mono ?_
              rintro e w1 ⟨rfl, hb1⟩
              go_wp2
              go_roundw
              case rel => exact ⟨k + 1, by omega, by go_num, HN, hbel.trans (hb1.mono hsz)⟩
              case measure => simp [intOf]; omega
          · have HN := Lib.hid (Hnext.out fun r e => by
              have := congrArg List.length e
              rw [List.length_drop, HSZ.out, List.length_append] at this
              omega)
            have d3 : decide ((3 : Int) ≤ (s.size : Int) - (p : Int)) = false := dcf (by omega)
            clear hB hln hmk hpl hpl' hx
            generalize (⟨(escB (UInt8.ofNat k)).toArray⟩ : ByteArray) = bw at *
            have z2 : ((bw.size : Int) == 3) = true := eqt (by omega)
            go_wp2_with fail
            refine (HB.out _).mono ?_
            rintro e w1 ⟨rfl, hb1⟩
            go_wp2
            go_roundw
            case rel => exact ⟨k + 1, by omega, by go_num, HN, hbel.trans (hb1.mono hsz)⟩
            case measure => simp [intOf]; omega
      · obtain rfl : k = 256 := by omega
        have HN : Hid (NoRd (s.data.toList.drop p)) := Lib.hid fun c r e => by
          have h8 := UInt8.toNat_lt c
          exact HK.out c.toNat (by omega) r (by rw [UInt8.ofNat_toNat]; exact e)
        go_wp2
        go_ret2
        exact ⟨.inr ⟨rfl, HN.out⟩, hbel⟩
  · have hn : ((s[p].toNat : Int) != 92) = true := by simpa using h92
    have h92' : at8 s p ≠ 92 := fun e => h92 (by rw [Hc.out, e]; rfl)
    have q := ext_eq1 hp
    have e1 : ((p : Int) + 1).toNat = p + 1 := by omega
    have i1 : (p : Int) + 1 ≤ (s.size : Int) := by omega
    have i2 : (p : Int) ≤ (p : Int) + 1 := by omega
    have i3 : (0 : Int) ≤ (p : Int) := by omega
    have k1 : IntKind.i64.wrap ((p : Int) + 1) = (p : Int) + 1 := IntWalk.i64_in _ (by omega)
    have HB := Lib.hid (fun W => byteR_calls s[p] W)
    have Hyes := Lib.hid (fun (h : plainB s[p] = true) => show s.data.toList.drop p = escB s[p] ++ s.data.toList.drop (p + (escB s[p]).length) by rw [escB_plain h, Hdr.out, Hc.out]; rfl)
    have Hno := Lib.hid (fun (h : plainB s[p] = false) => show NoRd (s.data.toList.drop p) by rw [Hdr.out, ← Hc.out]; exact noRd_bad h (by rw [Hc.out]; exact h92'))
    have Hln := Lib.hid (fun (h : plainB s[p] = true) => show ((escB s[p]).length : Int) = 1 by rw [escB_plain h]; rfl)
    clear h92 h92'
    generalize (⟨(escB s[p]).toArray⟩ : ByteArray) = bw at *
    generalize hpl : plainB s[p] = pl at *
    cases pl
    · have HN := Lib.hid (Hno.out rfl)
      clear Hno Hyes Hln hpl
      go_enter Try.func40, Try.ntmps40
      go_wp2_with fail
      go_region_held3 (fun w' => Below w.heap.size w w') (first | exact below_drewN_ (Below.refl _ _) 1 | assumption) ((go_at_call 42; refine (HB.out _).mono ?_; rintro en w3 ⟨rfl, hb3⟩; have hHH := ‹Below w.heap.size w _›; have he3 : Below w.heap.size w w3 := Below.trans hHH (hb3.mono hHH.size)))
      go_wp2
      go_ret2
      exact ⟨.inr ⟨rfl, HN.out⟩, he3⟩
    · have HY := Lib.hid (Hyes.out rfl)
      have HL := Lib.hid (Hln.out rfl)
      clear Hno Hyes Hln hpl
      go_enter Try.func40, Try.ntmps40
      go_wp2_with fail
      go_region_held3 (fun w' => Below w.heap.size w w') (first | exact below_drewN_ (Below.refl _ _) 1 | assumption) ((go_at_call 42; refine (HB.out _).mono ?_; rintro en w3 ⟨rfl, hb3⟩; have hHH := ‹Below w.heap.size w _›; have he3 : Below w.heap.size w w3 := Below.trans hHH (hb3.mono hHH.size)))
      go_wp2
      go_ret2
      exact ⟨.inl ⟨s[p], by rw [HL.out]; rfl, HY.out⟩, he3⟩
end Go.Proofs.Ytbnlfljlomhngaa
