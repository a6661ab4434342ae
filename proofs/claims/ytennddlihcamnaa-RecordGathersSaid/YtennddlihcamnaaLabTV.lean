/- Labels (chapter 8): a set's text, in plain Lean; plain; Byte of the reference. Labels (chapter 8): Text of the package. Labels (chapter 8): the reference's Byte, Value, Text; Same, Twin; the law's few and lives. -/
import Derived.Test.YtennddlihcamnaaLabB
import Derived.Test.YtennddlihcamnaaBld
import Derived.Test.YtennddlihcamnaaShelf
import Derived.Laws.BitsLemmas

namespace Go.Proofs.Ytennddlihcamnaa
set_option linter.unusedVariables false
set_option linter.unusedSimpArgs false
open Go.RowKit

def plainB (c : UInt8) : Bool := decide (32 ≤ c.toNat ∧ c.toNat ≤ 126 ∧ c.toNat ≠ 34 ∧ c.toNat ≠ 92)
def digS : ByteArray := ⟨#[48, 49, 50, 51, 52, 53, 54, 55, 56, 57, 97, 98, 99, 100, 101, 102]⟩
def dig16 (k : Nat) : UInt8 := at8 digS k
def escB (c : UInt8) : List UInt8 := if plainB c = true then [c] else [92, dig16 (c.toNat / 16), dig16 (c.toNat % 16)]
def valT (v : List UInt8) : List UInt8 := v.flatMap escB
def labT (x : Lab) : List UInt8 := x.1.data.toList ++ ([61, 34] ++ (valT x.2.data.toList ++ [34]))
def textK (l : List Lab) (k : Nat) : List UInt8 := (List.range k).flatMap fun i => (if 0 < i then [44] else []) ++ labT (labAt l i)
def textB (l : List Lab) : List UInt8 := 123 :: (textK l l.length ++ [125])
theorem escB_plain {c : UInt8} (h : plainB c = true) : escB c = [c] := by unfold escB; rw [if_pos h]
theorem escB_hex {c : UInt8} (h : plainB c = false) : escB c = [92, dig16 (c.toNat / 16), dig16 (c.toNat % 16)] := by unfold escB; rw [if_neg (by simp [h])]
theorem valT_snoc (v : List UInt8) (c : UInt8) : valT (v ++ [c]) = valT v ++ escB c := by simp [valT]
theorem escB_len (c : UInt8) : (escB c).length ≤ 3 := by unfold escB; split <;> simp
theorem valT_len : ∀ v : List UInt8, (valT v).length ≤ 3 * v.length
  | [] => by simp [valT]
  | c :: r => by
    have h1 := escB_len c
    have h2 := valT_len r
    have e : valT (c :: r) = escB c ++ valT r := by simp [valT]
    rw [e, List.length_append, List.length_cons]; omega
theorem textK_succ (l : List Lab) (k : Nat) : textK l (k + 1) = textK l k ++ ((if 0 < k then [44] else []) ++ labT (labAt l k)) := by
  unfold textK
  rw [List.range_succ, List.flatMap_append]
  simp
theorem textK_0 (l : List Lab) : textK l 0 = [] := rfl
theorem labT_len {x : Lab} (h1 : x.1.size ≤ 8) (h2 : x.2.size ≤ 16) : (labT x).length ≤ 59 := by
  have h3 := valT_len x.2.data.toList
  have e1 := strlen x.1
  have e2 := strlen x.2
  unfold labT
  simp only [List.length_append, List.length_cons, List.length_nil]
  omega
theorem right_at {l : List Lab} (h : rightB l = true) {k : Nat} (hk : k < l.length) : (labAt l k).1.size ≤ 8 ∧ (labAt l k).2.size ≤ 16 ∧ l.length ≤ 4 := by
  have h' := of_decide_eq_true h
  have ho := h'.2 k hk
  have hn := of_decide_eq_true ho.1
  exact ⟨hn.2.1, ho.2.1, h'.1⟩
theorem textK_len {l : List Lab} (h : rightB l = true) : ∀ k, k ≤ l.length → (textK l k).length ≤ 60 * k
  | 0, _ => by simp [textK]
  | k + 1, hk => by
    have h1 := textK_len h k (by omega)
    obtain ⟨h2, h3, _⟩ := right_at h (show k < l.length by omega)
    have h4 := labT_len h2 h3
    rw [textK_succ, List.length_append, List.length_append]
    have h5 : (if 0 < k then ([44] : List UInt8) else []).length ≤ 1 := by split <;> simp
    omega

theorem plain_calls (c : UInt8) (w : World) : Calls Try.prog 57 #[.int .u8 (c.toNat : Int)] w fun e w' => e = .returned (.bool (plainB c)) ∧ w = w' := by
  have hcase : (plainB c = true ∧ 32 ≤ (c.toNat : Int) ∧ (c.toNat : Int) ≤ 126 ∧ ((c.toNat : Int) != 34) = true ∧ ((c.toNat : Int) != 92) = true) ∨
      (plainB c = false ∧ ((c.toNat : Int) < 32 ∨ (32 ≤ (c.toNat : Int) ∧ 126 < (c.toNat : Int)) ∨ (32 ≤ (c.toNat : Int) ∧ (c.toNat : Int) ≤ 126 ∧ ((c.toNat : Int) != 34) = false) ∨ (32 ≤ (c.toNat : Int) ∧ (c.toNat : Int) ≤ 126 ∧ ((c.toNat : Int) != 34) = true ∧ ((c.toNat : Int) != 92) = false))) := by
    have e1 : ((c.toNat : Int) != 34) = true ↔ c.toNat ≠ 34 := by rw [bne_iff_ne]; omega
    have e2 : ((c.toNat : Int) != 34) = false ↔ c.toNat = 34 := by rw [bne_eq_false_iff_eq]; omega
    have e3 : ((c.toNat : Int) != 92) = true ↔ c.toNat ≠ 92 := by rw [bne_iff_ne]; omega
    have e4 : ((c.toNat : Int) != 92) = false ↔ c.toNat = 92 := by rw [bne_eq_false_iff_eq]; omega
    unfold plainB
    rw [decide_eq_true_iff, decide_eq_false_iff_not, e1, e2, e3, e4]
    omega
  rcases hcase with ⟨hl, h1, h2, h3, h4⟩ | ⟨hl, h⟩
  · have HL := Lib.hid hl
    clear hl
    have d1 : decide ((c.toNat : Int) ≤ 126) = true := dct h2
    go_enter Try.func57, Try.ntmps57
    go_wp2
    go_ret
    exact ⟨by rw [HL.out]; rfl, rfl⟩
  · have HL := Lib.hid hl
    clear hl
    rcases h with h1 | ⟨h1, h2⟩ | ⟨h1, h2, h3⟩ | ⟨h1, h2, h3, h4⟩
    all_goals
      try (have d1 : decide ((c.toNat : Int) ≤ 126) = true := dct (by omega))
      try (have d1 : decide ((c.toNat : Int) ≤ 126) = false := dcf (by omega))
      go_enter Try.func57, Try.ntmps57
      go_wp2
      go_ret
      exact ⟨by rw [HL.out]; rfl, rfl⟩

theorem idx_dig (k : Nat) (h : k < 16) (w : World) : (Instr.index 9 (.string ⟨#[48, 49, 50, 51, 52, 53, 54, 55, 56, 57, 97, 98, 99, 100, 101, 102]⟩) (.int .u8 (k : Int))).run Try.prog w = .ok (.int .u8 ((dig16 k).toNat : Int)) w := by
  have : k = 0 ∨ k = 1 ∨ k = 2 ∨ k = 3 ∨ k = 4 ∨ k = 5 ∨ k = 6 ∨ k = 7 ∨ k = 8 ∨ k = 9 ∨ k = 10 ∨ k = 11 ∨ k = 12 ∨ k = 13 ∨ k = 14 ∨ k = 15 := by omega
  clear h
  rcases this with rfl | rfl | rfl | rfl | rfl | rfl | rfl | rfl | rfl | rfl | rfl | rfl | rfl | rfl | rfl | rfl <;> (show _ = _; first | kernel_rfl | rfl)
theorem idx_hi (c : UInt8) (w : World) : (Instr.index 9 (.string ⟨#[48, 49, 50, 51, 52, 53, 54, 55, 56, 57, 97, 98, 99, 100, 101, 102]⟩) (.int .u8 ((c.toNat : Int) / 16))).run Try.prog w = .ok (.int .u8 ((dig16 (c.toNat / 16)).toNat : Int)) w := by
  have := UInt8.toNat_lt c
  exact idx_dig (c.toNat / 16) (by omega) w
theorem idx_lo (c : UInt8) (w : World) : (Instr.index 9 (.string ⟨#[48, 49, 50, 51, 52, 53, 54, 55, 56, 57, 97, 98, 99, 100, 101, 102]⟩) (.int .u8 ((c.toNat : Int) % 16))).run Try.prog w = .ok (.int .u8 ((dig16 (c.toNat % 16)).toNat : Int)) w := idx_dig (c.toNat % 16) (by omega) w
theorem u8_and15n (x : UInt8) : bits .and .u8 (x.toNat : Int) 15 = (x.toNat : Int) % 16 := by
  have h0 := UInt8.toNat_lt x
  show IntKind.u8.wrap ((BitVec.ofInt 8 (x.toNat : Int) &&& BitVec.ofInt 8 ((15 : Nat) : Int)).toNat : Int) = _
  rw [BitVec.toNat_and, BitVec.ofInt_natCast, BitVec.ofInt_natCast, BitVec.toNat_ofNat, BitVec.toNat_ofNat, IntKind.wrap_u8, show (15 % 2 ^ 8 : Nat) = 2 ^ 4 - 1 from rfl, Nat.and_two_pow_sub_one_eq_mod]
  omega
theorem idx_and (c : UInt8) (w : World) : (Instr.index 9 (.string ⟨#[48, 49, 50, 51, 52, 53, 54, 55, 56, 57, 97, 98, 99, 100, 101, 102]⟩) (.int .u8 (bits .and .u8 (c.toNat : Int) 15))).run Try.prog w = .ok (.int .u8 ((dig16 (c.toNat % 16)).toNat : Int)) w := by
  rw [u8_and15n]; exact idx_lo c w
theorem hex_cells (c : UInt8) : (#[.int .u8 92, .int .u8 ((dig16 (c.toNat / 16)).toNat : Int), .int .u8 ((dig16 (c.toNat % 16)).toNat : Int)] : Array Value).toList = ([92, dig16 (c.toNat / 16), dig16 (c.toNat % 16)] : List UInt8).map byteV := rfl
end Go.Proofs.Ytennddlihcamnaa

namespace Go.Proofs.Ytennddlihcamnaa
set_option linter.unusedVariables false
set_option linter.unusedSimpArgs false
open Go.RowKit

theorem app_lit (s : ByteArray) (t : ByteArray) : (s ++ t).data.toList = s.data.toList ++ t.data.toList := by simp
theorem size_app2 (s : ByteArray) : (s ++ (⟨#[61, 34]⟩ : ByteArray)).size = s.size + 2 := by rw [ByteArray.size_append]; rfl
theorem bstr_calls (B b : Nat) (l : List UInt8) (w : World) (h : Bld w B b l) (hBw : B ≤ w.heap.size) :
    Calls Try.prog 60 #[.pointer (some ⟨b, 0, none⟩)] w fun e w' => e = .returned (.string ⟨l.toArray⟩) ∧ Below B w w' := Try.Builder_String_any B b l w h hBw
theorem valT_take {v : List UInt8} {j : Nat} {c : UInt8} (hj : j < v.length) (hc : c = v.getD j 0) : valT (v.take (j + 1)) = valT (v.take j) ++ escB c := by
  rw [List.take_succ_eq_append_getElem hj, valT_snoc, hc]
  congr 2
  simp [List.getD, List.getElem?_eq_getElem hj]
theorem pre_len {l : List Lab} (h : rightB l = true) {k : Nat} (hk : k ≤ l.length) (hl4 : l.length ≤ 4) : (123 :: textK l k).length ≤ 241 := by
  have := textK_len h k hk
  rw [List.length_cons]; omega

set_option maxRecDepth 100000 in
set_option maxHeartbeats 4000000 in
theorem text_yes (w : World) {B c : Nat} {A : Option Addr} {l : List Lab} (h : Labs w B A l) (hB : B ≤ w.heap.size) (hf : Fit l) (hn : l.length ≤ 140737488355328) (hr : rightB l = true) :
    Calls Try.prog 42 #[.slice A l.length c] w fun e w' => e = .returned (.tuple #[.string ⟨(textB l).toArray⟩, .int .i64 0]) ∧ Below w.heap.size w w' := by
  have hcall := right_calls w (c := c) h hB hf hn
  rw [hr] at hcall
  have HC := Lib.hid hcall
  have HR : Hid (∀ k, k < l.length → (labAt l k).1.size ≤ 8 ∧ (labAt l k).2.size ≤ 16 ∧ l.length ≤ 4) := Lib.hid fun k hk => right_at hr hk
  have hl4 : l.length ≤ 4 := (of_decide_eq_true hr : rightP l).1
  have HK : Hid (∀ k, k ≤ l.length → (123 :: textK l k).length ≤ 241) := Lib.hid fun k hk => pre_len hr hk hl4
  have HT : Hid (textB l = 123 :: textK l l.length ++ [125]) := Lib.hid rfl
  clear hr hcall
  go_enter Try.func42, Try.ntmps42
  go_wp2_with fail
  refine HC.out.mono ?_
  rintro e w1 ⟨rfl, hbel1⟩
  have s1 := hbel1.size
  have hB1 := bld_new w1
  go_wp2_with fail
  have hbel2 : Below w.heap.size w (w1.alloc (.cells #[.pointer none, .slice none 0 0] 86)) := hbel1.alloc s1 _
  have hs2 : w1.heap.size ≤ (w1.alloc (.cells #[.pointer none, .slice none 0 0] 86)).heap.size := by simp
  generalize w1.alloc (.cells #[.pointer none, .slice none 0 0] 86) = w2 at *
  generalize w1.heap.size = G at *
  refine (wstr_calls G G [] _ w2 hB1 (by simp; decide) hs2).mono ?_
  rintro e w3 ⟨rfl, hB3, hbel3, hk3⟩
  have hBK : Bld w3 G G (123 :: textK l 0) := hB3
  have k3 := hbel2.trans (hbel3.mono s1)
  have hs3 := Nat.le_trans hs2 hbel3.size
  clear hB1 hB3 hbel2 hbel3 hk3
  go_wp2
  go_loopw [15] (fun i wr => ∃ k : Nat, k ≤ l.length ∧ i = .int .i64 (k : Int) ∧ Bld wr G G (123 :: textK l k) ∧ Below w.heap.size w wr ∧ G ≤ wr.heap.size) (fun i _ => l.length - (intOf i).toNat)
  case atStart => exact ⟨0, Nat.zero_le _, rfl, hBK, k3, hs3⟩
  case round =>
    obtain ⟨k, hk, rfl, hBk, hbel, hGs⟩ := hrel
    clear hBK k3 hs3 hs2
    by_cases hlt : k < l.length
    · obtain ⟨b, off, rfl, hbB, hcell⟩ := (h.below (hbel.mono hB)).cellAt (show 0 < l.length by omega)
      obtain ⟨c0, c1⟩ := hcell k hlt
      have hsz := hbel.size
      obtain ⟨f0, f1, _⟩ := HR.out k hlt
      have hpl := HK.out k (by omega)
      have Hnext : Hid (123 :: textK l (k + 1) = (123 :: textK l k) ++ ((if 0 < k then [44] else []) ++ labT (labAt l k))) := Lib.hid (by rw [textK_succ]; rfl)
      clear hcell
      generalize hx : labAt l k = x at *
      clear hx
      generalize hpre : 123 :: textK l k = pre at *
      clear hpre
      go_upto_if 21 with (fail)
      have hBx := hBk.alloc (.cells #[.string x.1, .string x.2] 39)
      have hbx := Blk.new wr 39 #[.string x.1, .string x.2]
      have hbelx := hbel.alloc hsz (.cells #[.string x.1, .string x.2] 39)
      have hGx : G ≤ (wr.alloc (.cells #[.string x.1, .string x.2] 39)).heap.size := by simp; omega
      obtain ⟨gx, hgx⟩ : ∃ gx, gx = wr.heap.size := ⟨_, rfl⟩
      have hgG : gx ≠ G := by have := hBk.lt; omega
      rw [← hgx] at hbx ⊢
      have HgG := Lib.hid hgG
      clear hgx hgG hBk hbel
      generalize wr.alloc (.cells #[.string x.1, .string x.2] 39) = W0 at *
      go_cut [22] (fun s wx => ∃ sep : List UInt8, Hid (sep = (if 0 < k then [44] else [])) ∧ sep.length ≤ 1 ∧ Bld wx G G (pre ++ sep) ∧ Blk wx gx 39 #[.string x.1, .string x.2] ∧ Below w.heap.size w wx ∧ G ≤ wx.heap.size)
      case first =>
        by_cases hk0 : 0 < k
        · have Hsep : Hid (([44] : List UInt8) = (if 0 < k then [44] else [])) := Lib.hid (by rw [if_pos hk0])
          have hk1 : (0 : Int) < (k : Int) := by omega
          go_wp2_with fail
          refine (wstr_calls G G pre _ W0 hBx (by simp [ByteArray.size]; omega) hGx).mono ?_
          rintro e w4 ⟨rfl, hB4, hbel4, hk4⟩
          go_wp2
          go_meet
          exact ⟨[44], Hsep, by simp, hB4, hk4.blk hbx (by decide) HgG.out, hbelx.trans (hbel4.mono s1), Nat.le_trans hGx hbel4.size⟩
        · have Hsep : Hid (([] : List UInt8) = (if 0 < k then [44] else [])) := Lib.hid (by rw [if_neg hk0])
          have hk1 : ¬ (0 : Int) < (k : Int) := by omega
          go_wp2
          go_meet
          exact ⟨[], Hsep, by simp, by simpa using hBx, hbx, hbelx, hGx⟩
      case rest =>
        clear hBx hbx hbelx hGx
        obtain ⟨sep, Hsep, hsepl, hB4, hbx4, hbel4, hG4⟩ := hcut
        rw [← Hsep.out] at Hnext
        have x0 := hbx4.cell 0
        have x1 := hbx4.cell 1
        simp only [List.getElem?_toArray, List.getElem?_cons_zero, List.getElem?_cons_succ] at x0 x1
        have hpl2 : (pre ++ sep).length ≤ 242 := by rw [List.length_append]; omega
        have Hpre2 : Hid ((pre ++ sep) ++ labT x = pre ++ (sep ++ labT x)) := Lib.hid (List.append_assoc _ _ _)
        rw [← Hpre2.out] at Hnext
        generalize pre ++ sep = pre2 at *
        go_wp2_with fail
        refine (wstr_calls G G pre2 _ _ hB4 (by rw [size_app2]; omega) hG4).mono ?_
        rintro e w5 ⟨rfl, hB5, hbel5, hk5⟩
        rw [app_lit] at hB5
        have hbx5 := hk5.blk hbx4 (by decide) HgG.out
        have k5 := hbel4.trans (hbel5.mono s1)
        have hG5 := Nat.le_trans hG4 hbel5.size
        have Hlab : Hid (labT x = x.1.data.toList ++ ([61, 34] ++ (valT x.2.data.toList ++ [34]))) := Lib.hid rfl
        have e61 : (⟨#[61, 34]⟩ : ByteArray).data.toList = [61, 34] := rfl
        rw [e61] at hB5
        have hnl := strlen x.1
        have hp3 : (pre2 ++ (x.1.data.toList ++ [61, 34])).length ≤ 252 := by
          simp only [List.length_append, List.length_cons, List.length_nil]; omega
        have Hpre3 : Hid (pre2 ++ labT x = (pre2 ++ (x.1.data.toList ++ [61, 34])) ++ (valT x.2.data.toList ++ [34])) := Lib.hid (by rw [Hlab.out]; simp [List.append_assoc])
        have hB5' : Bld w5 G G ((pre2 ++ (x.1.data.toList ++ [61, 34])) ++ valT (x.2.data.toList.take 0)) := by simpa [valT] using hB5
        clear hB4 hbx4 hbel4 hG4 hB5 hbel5 hk5 e61 x0 x1 hnl Hlab
        generalize pre2 ++ (x.1.data.toList ++ [61, 34]) = pre3 at *
        have y1 := hbx5.cell 1
        simp only [List.getElem?_toArray, List.getElem?_cons_zero, List.getElem?_cons_succ] at y1
        have HV := Lib.hid (strlen x.2)
        go_wp2
        go_loopw [30] (fun i wr => ∃ j : Nat, j ≤ x.2.size ∧ i = .int .i64 (j : Int) ∧ Bld wr G G (pre3 ++ valT (x.2.data.toList.take j)) ∧ Blk wr gx 39 #[.string x.1, .string x.2] ∧ Below w.heap.size w wr ∧ G ≤ wr.heap.size) (fun i _ => x.2.size - (intOf i).toNat)
        case atStart => exact ⟨0, Nat.zero_le _, rfl, hB5', hbx5, k5, hG5⟩
        case round =>
          obtain ⟨j, hj, rfl, hBj, hbxj, hbelj, hGj⟩ := hrel
          clear hB5' hbx5 k5 hG5 y1
          have y1 := hbxj.cell 1
          simp only [List.getElem?_toArray, List.getElem?_cons_zero, List.getElem?_cons_succ] at y1
          have hlen : (pre3 ++ valT (x.2.data.toList.take j)).length ≤ 300 := by
            have a1 := valT_len (x.2.data.toList.take j)
            have a2 : (x.2.data.toList.take j).length ≤ j := List.length_take_le _ _
            rw [List.length_append]; omega
          by_cases hjl : j < x.2.size
          · have Hcv := Lib.hid (at8_eq hjl)
            have hvt := valT_take (v := x.2.data.toList) (j := j) (c := x.2[j]) (by rw [HV.out]; exact hjl) Hcv.out
            have Hvt : Hid (pre3 ++ valT (x.2.data.toList.take (j + 1)) = (pre3 ++ valT (x.2.data.toList.take j)) ++ escB x.2[j]) := Lib.hid (by rw [hvt, List.append_assoc])
            have hP := fun W => plain_calls x.2[j] W
            have hc8 := UInt8.toNat_lt x.2[j]
            clear hvt
            generalize pre3 ++ valT (x.2.data.toList.take j) = cur at *
            by_cases hpb : plainB x.2[j] = true
            · rw [escB_plain hpb] at Hvt
              rw [hpb] at hP
              have HP := Lib.hid hP
              clear hP hpb
              go_wp2_with fail
              refine (HP.out _).mono ?_
              rintro e w' ⟨rfl, rfl⟩
              go_wp2_with fail
              refine (wbyte_calls G G cur x.2[j] _ hBj (by omega) hGj).mono ?_
              rintro e w6 ⟨rfl, hB6, hbel6, hk6⟩
              rw [← Hvt.out] at hB6
              go_wp2
              go_roundw
              case rel => exact ⟨j + 1, by omega, by go_num, hB6, hk6.blk hbxj (by decide) HgG.out, hbelj.trans (hbel6.mono s1), Nat.le_trans hGj hbel6.size⟩
              case measure => simp [intOf]; omega
            · have hpb' : plainB x.2[j] = false := by simpa using hpb
              rw [escB_hex hpb'] at Hvt
              rw [hpb'] at hP
              have HP := Lib.hid hP
              clear hP hpb hpb'
              go_wp2_with fail
              refine (HP.out _).mono ?_
              rintro e w' ⟨rfl, rfl⟩
              go_wp2_with fail
              have ih := idx_hi x.2[j]
              have il := idx_and x.2[j]
              go_still_tail 6, (by kernel_rfl)
              clear ih il
              have hcs := hex_cells x.2[j]
              have hbm := Blk.new (wr.drewN 1) 5 #[.int .u8 92, .int .u8 ((dig16 (x.2[j].toNat / 16)).toNat : Int), .int .u8 ((dig16 (x.2[j].toNat % 16)).toNat : Int)]
              have hBa := (hBj.drewN 1).alloc (.cells #[.int .u8 92, .int .u8 ((dig16 (x.2[j].toNat / 16)).toNat : Int), .int .u8 ((dig16 (x.2[j].toNat % 16)).toNat : Int)] 5)
              have hbxa := (hbxj.drewN 1).alloc (.cells #[.int .u8 92, .int .u8 ((dig16 (x.2[j].toNat / 16)).toNat : Int), .int .u8 ((dig16 (x.2[j].toNat % 16)).toNat : Int)] 5)
              have hsj := hbelj.size
              have hbela := (below_drewN_ hbelj 1).alloc hsj (.cells #[.int .u8 92, .int .u8 ((dig16 (x.2[j].toNat / 16)).toNat : Int), .int .u8 ((dig16 (x.2[j].toNat % 16)).toNat : Int)] 5)
              have hGa : G ≤ ((wr.drewN 1).alloc (.cells #[.int .u8 92, .int .u8 ((dig16 (x.2[j].toNat / 16)).toNat : Int), .int .u8 ((dig16 (x.2[j].toNat % 16)).toNat : Int)] 5)).heap.size := by rw [World.size_alloc]; exact Nat.le_succ_of_le hGj
              have hW := wbytes_calls (c := 3) G G cur _ _ hBa hbm hcs rfl (by simp; omega) hGa
              have HW := Lib.hid hW
              clear hW hBa hbm hcs
              go_wp2_with fail
              refine HW.out.mono ?_
              rintro e w6 ⟨rfl, hB6, hbel6, hk6⟩
              rw [← Hvt.out] at hB6
              go_wp2
              go_roundw
              case rel => exact ⟨j + 1, by omega, by go_num, hB6, hk6.blk hbxa (by decide) HgG.out, hbela.trans (hbel6.mono s1), Nat.le_trans hGa hbel6.size⟩
              case measure => simp [intOf]; omega
          · have hfull : x.2.data.toList.take j = x.2.data.toList := List.take_of_length_le (by rw [HV.out]; omega)
            rw [hfull] at hBj hlen
            clear hfull
            go_wp2_with fail
            refine (wstr_calls G G _ _ _ hBj (by simp [ByteArray.size] at hlen ⊢; omega) hGj).mono ?_
            rintro e w6 ⟨rfl, hB6, hbel6, hk6⟩
            have Hfin : Hid (pre3 ++ valT x.2.data.toList ++ (⟨#[34]⟩ : ByteArray).data.toList = 123 :: textK l (k + 1)) := Lib.hid (by rw [Hnext.out, Hpre3.out, List.append_assoc])
            rw [Hfin.out] at hB6
            go_wp2
            go_roundw
            case rel => exact ⟨k + 1, by omega, by go_num, hB6, hbelj.trans (hbel6.mono s1), Nat.le_trans hGj hbel6.size⟩
            case measure => simp [intOf]; omega
    · obtain rfl : k = l.length := by omega
      have hpl := HK.out l.length (Nat.le_refl _)
      go_wp2_with fail
      refine (wstr_calls G G _ _ _ hBk (by simp [ByteArray.size] at hpl ⊢; omega) hGs).mono ?_
      rintro e w6 ⟨rfl, hB6, hbel6, hk6⟩
      have e125 : (⟨#[125]⟩ : ByteArray).data.toList = [125] := rfl
      rw [e125, ← HT.out] at hB6
      have HB6 := Lib.hid hB6
      clear hB6 e125
      go_wp2_with fail
      refine (bstr_calls G G _ _ HB6.out (Nat.le_trans hGs hbel6.size)).mono ?_
      rintro e w7 ⟨rfl, hbel7⟩
      go_wp2
      go_ret2
      exact ⟨rfl, (hbel.trans (hbel6.mono s1)).trans (hbel7.mono s1)⟩
end Go.Proofs.Ytennddlihcamnaa

namespace Go.Proofs.Ytennddlihcamnaa
set_option linter.unusedVariables false
set_option linter.unusedSimpArgs false
open Go.RowKit

theorem conv_new (w : World) (m : List UInt8) (cs : Array Value) (n c : Nat) (hcs : cs.toList = m.map byteV) (hn : m.length = n) :
    (convert 84 9 (.slice (some ⟨w.heap.size, 0, none⟩) n c)).run Try.prog (w.alloc (.cells cs 5)) = .ok (.string ⟨m.toArray⟩) (w.alloc (.cells cs 5)) := by
  have hb : Bytes (w.alloc (.cells cs 5)) (w.alloc (.cells cs 5)).heap.size (some ⟨w.heap.size, 0, none⟩) n m := ⟨hn, blk_reads (Blk.new w _ cs) hcs hn⟩
  exact hb.conv Try.prog c 84 5 9 Try.underlying84 Try.underlying5 Try.underlying9

theorem conv_drew (w : World) (m : List UInt8) (cs : Array Value) (n c : Nat) (hcs : cs.toList = m.map byteV) (hn : m.length = n) :
    (convert 84 9 (.slice (some ⟨w.heap.size, 0, none⟩) n c)).run Try.prog (w.alloc (.cells cs 5)).drew = .ok (.string ⟨m.toArray⟩) (w.alloc (.cells cs 5)).drew := by
  have hb : Bytes (w.alloc (.cells cs 5)).drew (w.alloc (.cells cs 5)).heap.size (some ⟨w.heap.size, 0, none⟩) n m := Bytes.drew ⟨hn, blk_reads (Blk.new w _ cs) hcs hn⟩
  exact hb.conv Try.prog c 84 5 9 Try.underlying84 Try.underlying5 Try.underlying9

set_option maxRecDepth 100000 in
set_option maxHeartbeats 1600000 in
theorem byteR_calls (c : UInt8) (w : World) : Calls Try.prog 65 #[.int .u8 (c.toNat : Int)] w fun e w' => e = .returned (.string ⟨(escB c).toArray⟩) ∧ Below w.heap.size w w' := by
  have hcase : (plainB c = true ∧ 32 ≤ (c.toNat : Int) ∧ (c.toNat : Int) ≤ 126 ∧ ((c.toNat : Int) != 34) = true ∧ ((c.toNat : Int) != 92) = true) ∨
      (plainB c = false ∧ ((c.toNat : Int) < 32 ∨ (32 ≤ (c.toNat : Int) ∧ 126 < (c.toNat : Int)) ∨ (32 ≤ (c.toNat : Int) ∧ (c.toNat : Int) ≤ 126 ∧ ((c.toNat : Int) != 34) = false) ∨ (32 ≤ (c.toNat : Int) ∧ (c.toNat : Int) ≤ 126 ∧ ((c.toNat : Int) != 34) = true ∧ ((c.toNat : Int) != 92) = false))) := by
    have e1 : ((c.toNat : Int) != 34) = true ↔ c.toNat ≠ 34 := by rw [bne_iff_ne]; omega
    have e2 : ((c.toNat : Int) != 34) = false ↔ c.toNat = 34 := by rw [bne_eq_false_iff_eq]; omega
    have e3 : ((c.toNat : Int) != 92) = true ↔ c.toNat ≠ 92 := by rw [bne_iff_ne]; omega
    have e4 : ((c.toNat : Int) != 92) = false ↔ c.toNat = 92 := by rw [bne_eq_false_iff_eq]; omega
    unfold plainB
    rw [decide_eq_true_iff, decide_eq_false_iff_not, e1, e2, e3, e4]
    omega
  have hc8 := UInt8.toNat_lt c
  rcases hcase with ⟨hl, h1, h2, h3, h4⟩ | ⟨hl, h⟩
  · have HL := Lib.hid (escB_plain hl)
    clear hl
    have hcv := conv_new w [c] #[.int .u8 (c.toNat : Int)] 1 1 rfl rfl
    go_enter Try.func65, Try.ntmps65
    go_wp2
    go_ret
    exact ⟨by rw [HL.out]; rfl, (Below.refl _ _).alloc (Nat.le_refl _) _⟩
  · have HL := Lib.hid (escB_hex hl)
    clear hl
    have hcv := conv_drew w [92, dig16 (c.toNat / 16), dig16 (c.toNat % 16)] #[.int .u8 92, .int .u8 ((dig16 (c.toNat / 16)).toNat : Int), .int .u8 ((dig16 (c.toNat % 16)).toNat : Int)] 3 3 rfl rfl
    have Hcv := Lib.hid hcv
    have ih := idx_hi c
    have il := idx_lo c
    have e1 : IntKind.u8.wrap ((c.toNat : Int).tdiv 16) = (c.toNat : Int) / 16 := IntWalk.u8_quo _ _ (by omega)
    have e2 : (c.toNat : Int).tmod 16 = (c.toNat : Int) % 16 := IntWalk.rem_in _ _ (by omega)
    have e4 : IntKind.u8.wrap ((c.toNat : Int) / 16) = (c.toNat : Int) / 16 := IntWalk.u8_in _ (by omega)
    have e3 : IntKind.u8.wrap ((c.toNat : Int) % 16) = (c.toNat : Int) % 16 := IntWalk.u8_in _ (by omega)
    clear hcv
    rcases h with h1 | ⟨h1, h2⟩ | ⟨h1, h2, h3⟩ | ⟨h1, h2, h3, h4⟩
    all_goals
      go_enter Try.func65, Try.ntmps65
      go_wp2_with fail
      go_still_tail 8, (by kernel_rfl)
      clear ih il e1 e2 e3 e4
      have hcv := Hcv.out
      go_wp2
      go_ret
      exact ⟨by rw [HL.out]; rfl, (below_drewN_ (Below.refl _ _) 1).alloc (Nat.le_refl _) _⟩

theorem app_str (a b : List UInt8) : (⟨a.toArray⟩ : ByteArray) ++ ⟨b.toArray⟩ = ⟨(a ++ b).toArray⟩ := by
  apply ByteArray.ext
  apply Array.toList_inj.1
  simp
theorem mk_size (a : List UInt8) : (⟨a.toArray⟩ : ByteArray).size = a.length := by simp [ByteArray.size]

set_option maxRecDepth 100000 in
set_option maxHeartbeats 1600000 in
theorem valueR_calls (s : ByteArray) (w : World) (hs : s.size ≤ 1000000) : Calls Try.prog 47 #[.string s] w fun e w' => e = .returned (.string ⟨(valT s.data.toList).toArray⟩) ∧ Below w.heap.size w w' := by
  have HS := Lib.hid (strlen s)
  go_enter Try.func47, Try.ntmps47
  go_wp2
  go_loopw [3, 4] (fun r i wr => ∃ j : Nat, j ≤ s.size ∧ i = .int .i64 (j : Int) ∧ r = .string ⟨(valT (s.data.toList.take j)).toArray⟩ ∧ Below w.heap.size w wr) (fun _ i _ => s.size - (intOf i).toNat)
  case atStart => exact ⟨0, Nat.zero_le _, rfl, rfl, Below.refl _ _⟩
  case round =>
    obtain ⟨j, hj, rfl, rfl, hbel⟩ := hrel
    by_cases hjl : j < s.size
    · have Hcv := Lib.hid (at8_eq hjl)
      have hvt := valT_take (v := s.data.toList) (j := j) (c := s[j]) (by rw [HS.out]; exact hjl) Hcv.out
      have hln : (valT (s.data.toList.take j)).length ≤ 3000000 := by
        have a1 := valT_len (s.data.toList.take j)
        have a2 : (s.data.toList.take j).length ≤ j := List.length_take_le _ _
        omega
      have hle := escB_len s[j]
      have HB := Lib.hid (fun W => byteR_calls s[j] W)
      have hc8 := UInt8.toNat_lt s[j]
      have Hvt : Hid ((⟨(valT (s.data.toList.take j)).toArray⟩ : ByteArray) ++ ⟨(escB s[j]).toArray⟩ = ⟨(valT (s.data.toList.take (j + 1))).toArray⟩) := Lib.hid (by rw [app_str, hvt])
      have z1 := mk_size (valT (s.data.toList.take j))
      have z2 := mk_size (escB s[j])
      have z3 : (⟨(valT (s.data.toList.take j)).toArray⟩ : ByteArray).size ≤ 3000000 := by omega
      have z4 : (⟨(escB s[j]).toArray⟩ : ByteArray).size ≤ 3 := by omega
      clear z1 z2 hvt hln hle
      generalize (⟨(valT (s.data.toList.take j)).toArray⟩ : ByteArray) = r at *
      generalize (⟨(escB s[j]).toArray⟩ : ByteArray) = q at *
      go_wp2_with fail
      refine (HB.out _).mono ?_
      rintro e w2 ⟨rfl, hbel2⟩
      go_wp2
      go_roundw
      case rel => exact ⟨j + 1, by omega, by go_num, by rw [Hvt.out], hbel.trans (hbel2.mono hbel.size)⟩
      case measure => simp [intOf]; omega
    · have hfull : s.data.toList.take j = s.data.toList := List.take_of_length_le (by rw [HS.out]; omega)
      rw [hfull]
      go_wp2
      go_ret
      exact ⟨rfl, hbel⟩

set_option maxRecDepth 100000 in
set_option maxHeartbeats 1600000 in
theorem run_add2 {P : Program} {a b : ByteArray} (W : World) {n : Nat} (h : a.size ≤ n) (hb : b.size ≤ 1000 ∧ n ≤ 1000) : (Op.stringOp .add a b).run P W = .ok (.string (a ++ b)) W :=
  run_string_add_sum W a b (by omega)

theorem run_add1 {P : Program} {a : ByteArray} {c : UInt8} (W : World) {n : Nat} (h : a.size ≤ n) (hn : n ≤ 1000 := by decide) : (Op.stringOp .add a (⟨#[c]⟩ : ByteArray)).run P W = .ok (.string (a ++ (⟨#[c]⟩ : ByteArray))) W :=
  run_add2 W h ⟨by show 1 ≤ 1000; decide, hn⟩

theorem textR_calls (w : World) {B c : Nat} {A : Option Addr} {l : List Lab} (h : Labs w B A l) (hB : B ≤ w.heap.size) (hn : l.length ≤ 140737488355328) (hr : rightB l = true) :
    Calls Try.prog 27 #[.slice A l.length c] w fun e w' => e = .returned (.string ⟨(textB l).toArray⟩) ∧ Below w.heap.size w w' := by
  have HR : Hid (∀ k, k < l.length → (labAt l k).1.size ≤ 8 ∧ (labAt l k).2.size ≤ 16 ∧ l.length ≤ 4) := Lib.hid fun k hk => right_at hr hk
  have hl4 : l.length ≤ 4 := (of_decide_eq_true hr : rightP l).1
  have HK : Hid (∀ k, k ≤ l.length → (123 :: textK l k).length ≤ 241) := Lib.hid fun k hk => pre_len hr hk hl4
  have HT : Hid (textB l = 123 :: textK l l.length ++ [125]) := Lib.hid rfl
  clear hr
  go_enter Try.func27, Try.ntmps27
  go_wp2
  go_loopw [3, 8] (fun r i wr => ∃ k : Nat, k ≤ l.length ∧ i = .int .i64 (k : Int) ∧ r = .string ⟨(123 :: textK l k).toArray⟩ ∧ Below w.heap.size w wr) (fun _ i _ => l.length - (intOf i).toNat)
  case atStart => exact ⟨0, Nat.zero_le _, rfl, rfl, Below.refl _ _⟩
  case round =>
    obtain ⟨k, hk, rfl, rfl, hbel⟩ := hrel
    by_cases hlt : k < l.length
    · obtain ⟨b, off, rfl, hbB, hcell⟩ := (h.below (hbel.mono hB)).cellAt (show 0 < l.length by omega)
      obtain ⟨c0, c1⟩ := hcell k hlt
      have hsz := hbel.size
      obtain ⟨f0, f1, _⟩ := HR.out k hlt
      have hpl := HK.out k (by omega)
      have Hnext : Hid (123 :: textK l (k + 1) = (123 :: textK l k) ++ ((if 0 < k then [44] else []) ++ labT (labAt l k))) := Lib.hid (by rw [textK_succ]; rfl)
      have z1 : (⟨(123 :: textK l k).toArray⟩ : ByteArray).size ≤ 241 := by rw [mk_size]; exact hpl
      have Hpre : Hid ((⟨(123 :: textK l k).toArray⟩ : ByteArray).data.toList = 123 :: textK l k) := Lib.hid rfl
      clear hcell
      generalize hx : labAt l k = x at *
      clear hx
      generalize (⟨(123 :: textK l k).toArray⟩ : ByteArray) = r at *
      have hval := fun W => valueR_calls x.2 W (by omega)
      have HV := Lib.hid hval
      clear hval
      have hvl : (⟨(valT x.2.data.toList).toArray⟩ : ByteArray).size ≤ 48 := by
        rw [mk_size]
        have := valT_len x.2.data.toList
        have := strlen x.2
        omega
      have Hvl : Hid ((⟨(valT x.2.data.toList).toArray⟩ : ByteArray).data.toList = valT x.2.data.toList) := Lib.hid rfl
      generalize (⟨(valT x.2.data.toList).toArray⟩ : ByteArray) = vs at *
      by_cases hk0 : 0 < k
      · have Hfin : Hid (r ++ (⟨#[44]⟩ : ByteArray) ++ x.1 ++ (⟨#[61]⟩ : ByteArray) ++ (⟨#[34]⟩ : ByteArray) ++ vs ++ (⟨#[34]⟩ : ByteArray) = ⟨(123 :: textK l (k + 1)).toArray⟩) := Lib.hid (by
          apply ByteArray.ext
          apply Array.toList_inj.1
          rw [Hnext.out, if_pos hk0]
          simp only [app_lit, Hpre.out, Hvl.out, labT]
          simp)
        have hk1 : (0 : Int) < (k : Int) := by omega
        have q1 : ∀ W, (Op.stringOp .add r (⟨#[44]⟩ : ByteArray)).run Try.prog W = .ok (.string (r ++ (⟨#[44]⟩ : ByteArray))) W := fun W => run_add1 W z1
        have z2 : (r ++ (⟨#[44]⟩ : ByteArray)).size ≤ 242 := by rw [ByteArray.size_append]; exact Nat.add_le_add z1 (Nat.le_refl 1)
        have q2 : ∀ W, (Op.stringOp .add (r ++ (⟨#[44]⟩ : ByteArray)) x.1).run Try.prog W = .ok (.string (r ++ (⟨#[44]⟩ : ByteArray) ++ x.1)) W := fun W => run_add2 W z2 (by omega)
        have z3 : (r ++ (⟨#[44]⟩ : ByteArray) ++ x.1).size ≤ 250 := by rw [ByteArray.size_append]; omega
        have q3 : ∀ W, (Op.stringOp .add (r ++ (⟨#[44]⟩ : ByteArray) ++ x.1) (⟨#[61]⟩ : ByteArray)).run Try.prog W = .ok (.string (r ++ (⟨#[44]⟩ : ByteArray) ++ x.1 ++ (⟨#[61]⟩ : ByteArray))) W := fun W => run_add1 W z3
        have z4 : (r ++ (⟨#[44]⟩ : ByteArray) ++ x.1 ++ (⟨#[61]⟩ : ByteArray)).size ≤ 251 := by rw [ByteArray.size_append]; exact Nat.add_le_add z3 (Nat.le_refl 1)
        have q4 : ∀ W, (Op.stringOp .add (r ++ (⟨#[44]⟩ : ByteArray) ++ x.1 ++ (⟨#[61]⟩ : ByteArray)) (⟨#[34]⟩ : ByteArray)).run Try.prog W = .ok (.string (r ++ (⟨#[44]⟩ : ByteArray) ++ x.1 ++ (⟨#[61]⟩ : ByteArray) ++ (⟨#[34]⟩ : ByteArray))) W := fun W => run_add1 W z4
        have z5 : (r ++ (⟨#[44]⟩ : ByteArray) ++ x.1 ++ (⟨#[61]⟩ : ByteArray) ++ (⟨#[34]⟩ : ByteArray)).size ≤ 252 := by rw [ByteArray.size_append]; exact Nat.add_le_add z4 (Nat.le_refl 1)
        have q5 : ∀ W, (Op.stringOp .add (r ++ (⟨#[44]⟩ : ByteArray) ++ x.1 ++ (⟨#[61]⟩ : ByteArray) ++ (⟨#[34]⟩ : ByteArray)) vs).run Try.prog W = .ok (.string (r ++ (⟨#[44]⟩ : ByteArray) ++ x.1 ++ (⟨#[61]⟩ : ByteArray) ++ (⟨#[34]⟩ : ByteArray) ++ vs)) W := fun W => run_add2 W z5 (by omega)
        have z6 : (r ++ (⟨#[44]⟩ : ByteArray) ++ x.1 ++ (⟨#[61]⟩ : ByteArray) ++ (⟨#[34]⟩ : ByteArray) ++ vs).size ≤ 300 := by rw [ByteArray.size_append]; omega
        have q6 : ∀ W, (Op.stringOp .add (r ++ (⟨#[44]⟩ : ByteArray) ++ x.1 ++ (⟨#[61]⟩ : ByteArray) ++ (⟨#[34]⟩ : ByteArray) ++ vs) (⟨#[34]⟩ : ByteArray)).run Try.prog W = .ok (.string (r ++ (⟨#[44]⟩ : ByteArray) ++ x.1 ++ (⟨#[61]⟩ : ByteArray) ++ (⟨#[34]⟩ : ByteArray) ++ vs ++ (⟨#[34]⟩ : ByteArray))) W := fun W => run_add1 W z6
        go_wp2_with fail
        go_region_held3 (fun w' => w'.cell? ⟨wr.heap.size, 0, none⟩ = some (.string x.1) ∧ w'.cell? ⟨wr.heap.size, 1, none⟩ = some (.string x.2)) (go_keep) ((go_at_call 47; refine (HV.out _).mono ?_; rintro en w3 ⟨rfl, hbel3⟩; have hbx3 := ((Blk.new wr 39 #[.string x.1, .string x.2]).drewN 1).below hbel3 (by simp); have y0 : w3.cell? ⟨wr.heap.size, 0, none⟩ = some (.string x.1) := hbx3.cell 0; have y1 : w3.cell? ⟨wr.heap.size, 1, none⟩ = some (.string x.2) := hbx3.cell 1))
        have hbel4 : Below w.heap.size w w3 := (below_drewN_ (hbel.alloc hsz (.cells #[.string x.1, .string x.2] 39)) 1).trans (hbel3.mono (by simp; omega))
        go_wp2
        go_roundw
        case rel => exact ⟨k + 1, by omega, by go_num, by rw [Hfin.out], hbel4⟩
        case measure => simp [intOf]; omega
      · have Hfin : Hid (r ++ x.1 ++ (⟨#[61]⟩ : ByteArray) ++ (⟨#[34]⟩ : ByteArray) ++ vs ++ (⟨#[34]⟩ : ByteArray) = ⟨(123 :: textK l (k + 1)).toArray⟩) := Lib.hid (by
          apply ByteArray.ext
          apply Array.toList_inj.1
          rw [Hnext.out, if_neg hk0]
          simp only [app_lit, Hpre.out, Hvl.out, labT]
          simp)
        have hk1 : ¬ (0 : Int) < (k : Int) := by omega
        have q2 : ∀ W, (Op.stringOp .add (r) x.1).run Try.prog W = .ok (.string (r ++ x.1)) W := fun W => run_add2 W z1 (by omega)
        have z3 : (r ++ x.1).size ≤ 250 := by rw [ByteArray.size_append]; omega
        have q3 : ∀ W, (Op.stringOp .add (r ++ x.1) (⟨#[61]⟩ : ByteArray)).run Try.prog W = .ok (.string (r ++ x.1 ++ (⟨#[61]⟩ : ByteArray))) W := fun W => run_add1 W z3
        have z4 : (r ++ x.1 ++ (⟨#[61]⟩ : ByteArray)).size ≤ 251 := by rw [ByteArray.size_append]; exact Nat.add_le_add z3 (Nat.le_refl 1)
        have q4 : ∀ W, (Op.stringOp .add (r ++ x.1 ++ (⟨#[61]⟩ : ByteArray)) (⟨#[34]⟩ : ByteArray)).run Try.prog W = .ok (.string (r ++ x.1 ++ (⟨#[61]⟩ : ByteArray) ++ (⟨#[34]⟩ : ByteArray))) W := fun W => run_add1 W z4
        have z5 : (r ++ x.1 ++ (⟨#[61]⟩ : ByteArray) ++ (⟨#[34]⟩ : ByteArray)).size ≤ 252 := by rw [ByteArray.size_append]; exact Nat.add_le_add z4 (Nat.le_refl 1)
        have q5 : ∀ W, (Op.stringOp .add (r ++ x.1 ++ (⟨#[61]⟩ : ByteArray) ++ (⟨#[34]⟩ : ByteArray)) vs).run Try.prog W = .ok (.string (r ++ x.1 ++ (⟨#[61]⟩ : ByteArray) ++ (⟨#[34]⟩ : ByteArray) ++ vs)) W := fun W => run_add2 W z5 (by omega)
        have z6 : (r ++ x.1 ++ (⟨#[61]⟩ : ByteArray) ++ (⟨#[34]⟩ : ByteArray) ++ vs).size ≤ 300 := by rw [ByteArray.size_append]; omega
        have q6 : ∀ W, (Op.stringOp .add (r ++ x.1 ++ (⟨#[61]⟩ : ByteArray) ++ (⟨#[34]⟩ : ByteArray) ++ vs) (⟨#[34]⟩ : ByteArray)).run Try.prog W = .ok (.string (r ++ x.1 ++ (⟨#[61]⟩ : ByteArray) ++ (⟨#[34]⟩ : ByteArray) ++ vs ++ (⟨#[34]⟩ : ByteArray))) W := fun W => run_add1 W z6
        go_wp2_with fail
        go_region_held3 (fun w' => w'.cell? ⟨wr.heap.size, 0, none⟩ = some (.string x.1) ∧ w'.cell? ⟨wr.heap.size, 1, none⟩ = some (.string x.2)) (go_keep) ((go_at_call 47; refine (HV.out _).mono ?_; rintro en w3 ⟨rfl, hbel3⟩; have hbx3 := ((Blk.new wr 39 #[.string x.1, .string x.2]).drewN 1).below hbel3 (by simp); have y0 : w3.cell? ⟨wr.heap.size, 0, none⟩ = some (.string x.1) := hbx3.cell 0; have y1 : w3.cell? ⟨wr.heap.size, 1, none⟩ = some (.string x.2) := hbx3.cell 1))
        have hbel4 : Below w.heap.size w w3 := (below_drewN_ (hbel.alloc hsz (.cells #[.string x.1, .string x.2] 39)) 1).trans (hbel3.mono (by simp; omega))
        go_wp2
        go_roundw
        case rel => exact ⟨k + 1, by omega, by go_num, by rw [Hfin.out], hbel4⟩
        case measure => simp [intOf]; omega
    · have hkl : k = l.length := by omega
      subst hkl
      have hpl := HK.out l.length (Nat.le_refl _)
      have Hout : Hid ((⟨(123 :: textK l l.length).toArray⟩ : ByteArray) ++ (⟨#[125]⟩ : ByteArray) = ⟨(textB l).toArray⟩) := Lib.hid (by
        apply ByteArray.ext
        apply Array.toList_inj.1
        rw [HT.out, app_lit])
      have z1 : (⟨(123 :: textK l l.length).toArray⟩ : ByteArray).size ≤ 241 := by rw [mk_size]; exact hpl
      generalize (⟨(123 :: textK l l.length).toArray⟩ : ByteArray) = r at *
      have q1 : ∀ W, (Op.stringOp .add r (⟨#[125]⟩ : ByteArray)).run Try.prog W = .ok (.string (r ++ (⟨#[125]⟩ : ByteArray))) W := fun W => run_add1 W z1
      go_wp2
      go_ret
      exact ⟨by rw [Hout.out]; rfl, hbel⟩

end Go.Proofs.Ytennddlihcamnaa
