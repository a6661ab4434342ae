/- Labels (chapter 8): Text of the package. -/
import Derived.Test.YtbnlfljlomhngaaLabT
import Derived.Test.YtbnlfljlomhngaaShelf
namespace Go.Proofs.Ytbnlfljlomhngaa
open Go.RowKit

theorem app_lit (s : ByteArray) (t : ByteArray) : (s ++ t).data.toList = s.data.toList ++ t.data.toList := by simp
theorem size_app2 (s : ByteArray) : (s ++ (⟨#[61, 34]⟩ : ByteArray)).size = s.size + 2 := by rw [ByteArray.size_append]; rfl
theorem bstr_calls (B b : Nat) (l : List UInt8) (w : World) (h : Bld w B b l) (hBw : B ≤ w.heap.size) :
    Calls Try.prog 31 #[.pointer (some ⟨b, 0, none⟩)] w fun e w' => e = .returned (.string ⟨l.toArray⟩) ∧ Below B w w' := Try.Builder_String_any B b l w h hBw
theorem valT_take {v : List UInt8} {j : Nat} {c : UInt8} (hj : j < v.length) (hc : c = v.getD j 0) : valT (v.take (j + 1)) = valT (v.take j) ++ escB c := by
  rw [List.take_succ_eq_append_getElem hj, valT_snoc, hc]
  congr 2
  simp [List.getD, List.getElem?_eq_getElem hj]
theorem pre_len {l : List Lab} (h : rightB l = true) {k : Nat} (hk : k ≤ l.length) (hl4 : l.length ≤ 4) : (123 :: textK l k).length ≤ 241 := by
  have := textK_len h k hk
  rw [List.length_cons]; omega

set_option maxRecDepth 100000 in
set_option maxHeartbeats 4000000 in
theorem text_yes (w : World) {B c : Nat} {A : Option Addr} {l : List Lab} (h : Labs w B A l) (hB : B ≤ w.heap.size) (hf : Fit l) (hn : l.length ≤ 140737488355328) (hr : rightB l = true) :
    Calls Try.prog 13 #[.slice A l.length c] w fun e w' => e = .returned (.tuple #[.string ⟨(textB l).toArray⟩, .int .i64 0]) ∧ Below w.heap.size w w' := by
  have hcall := right_calls w (c := c) h hB hf hn
  rw [hr] at hcall
  have HC := Lib.hid hcall
  have HR : Hid (∀ k, k < l.length → (labAt l k).1.size ≤ 8 ∧ (labAt l k).2.size ≤ 16 ∧ l.length ≤ 4) := Lib.hid fun k hk => right_at hr hk
  have hl4 : l.length ≤ 4 := (of_decide_eq_true hr : rightP l).1
  have HK : Hid (∀ k, k ≤ l.length → (123 :: textK l k).length ≤ 241) := Lib.hid fun k hk => pre_len hr hk hl4
  have HT : Hid (textB l = 123 :: textK l l.length ++ [125]) := Lib.hid rfl
  clear hr hcall
  go_enter Try.func13, Try.ntmps13
  go_wp2_with fail
  refine HC.out.mono ?_
  rintro e w1 ⟨rfl, hbel1⟩
  have s1 := hbel1.size
  have hB1 := bld_new w1
  go_wp2_with fail
  have hbel2 : Below w.heap.size w (w1.alloc (.cells #[.pointer none, .slice none 0 0] 57)) := hbel1.alloc s1 _
  have hs2 : w1.heap.size ≤ (w1.alloc (.cells #[.pointer none, .slice none 0 0] 57)).heap.size := by simp
  generalize w1.alloc (.cells #[.pointer none, .slice none 0 0] 57) = w2 at *
  generalize w1.heap.size = G at *
  refine (wstr_calls G G [] _ w2 hB1 (by simp; decide) hs2).mono ?_
  rintro e w3 ⟨rfl, hB3, hbel3, hk3⟩
  have hBK : Bld w3 G G (123 :: textK l 0) := hB3
  have k3 := hbel2.trans (hbel3.mono s1)
  have hs3 := Nat.le_trans hs2 hbel3.size
  clear hB1 hB3 hbel2 hbel3 hk3
  go_wp2
  go_loopw [15] (fun i wr => ∃ k : Nat, k ≤ l.length ∧ i = .int .i64 (k : Int) ∧ Bld wr G G (123 :: textK l k) ∧ Below w.heap.size w wr ∧ G ≤ wr.heap.size) (fun i _ => l.length - (intOf i).toNat)
  case atStart => exact ⟨0, Nat.zero_le _, rfl, hBK, k3, hs3⟩
  case round =>
    obtain ⟨k, hk, rfl, hBk, hbel, hGs⟩ := hrel
    clear hBK k3 hs3 hs2
    by_cases hlt : k < l.length
    · obtain ⟨b, off, rfl, hbB, hcell⟩ := (h.below (hbel.mono hB)).cellAt (show 0 < l.length by omega)
      obtain ⟨c0, c1⟩ := hcell k hlt
      have hsz := hbel.size
      obtain ⟨f0, f1, _⟩ := HR.out k hlt
      have hpl := HK.out k (by omega)
      have Hnext : Hid (123 :: textK l (k + 1) = (123 :: textK l k) ++ ((if 0 < k then [44] else []) ++ labT (labAt l k))) := Lib.hid (by rw [textK_succ]; rfl)
      clear hcell
      generalize hx : labAt l k = x at *
      clear hx
      generalize hpre : 123 :: textK l k = pre at *
      clear hpre
      go_upto_if 21 with (fail)
      have hBx := hBk.alloc (.cells #[.string x.1, .string x.2] 37)
      have hbx := Blk.new wr 37 #[.string x.1, .string x.2]
      have hbelx := hbel.alloc hsz (.cells #[.string x.1, .string x.2] 37)
      have hGx : G ≤ (wr.alloc (.cells #[.string x.1, .string x.2] 37)).heap.size := by simp; omega
      obtain ⟨gx, hgx⟩ : ∃ gx, gx = wr.heap.size := ⟨_, rfl⟩
      have hgG : gx ≠ G := by have := hBk.lt; omega
      rw [← hgx] at hbx ⊢
      have HgG := Lib.hid hgG
      clear hgx hgG hBk hbel
      generalize wr.alloc (.cells #[.string x.1, .string x.2] 37) = W0 at *
      go_cut [22] (fun s wx => ∃ sep : List UInt8, Hid (sep = (if 0 < k then [44] else [])) ∧ sep.length ≤ 1 ∧ Bld wx G G (pre ++ sep) ∧ Blk wx gx 37 #[.string x.1, .string x.2] ∧ Below w.heap.size w wx ∧ G ≤ wx.heap.size)
      case first =>
        by_cases hk0 : 0 < k
        · have Hsep : Hid (([44] : List UInt8) = (if 0 < k then [44] else [])) := Lib.hid (by rw [if_pos hk0])
          have hk1 : (0 : Int) < (k : Int) := by omega
          go_wp2_with fail
          refine (wstr_calls G G pre _ W0 hBx (by simp [ByteArray.size]; omega) hGx).mono ?_
          rintro e w4 ⟨rfl, hB4, hbel4, hk4⟩
          go_wp2
          go_meet
          exact ⟨[44], Hsep, by simp, hB4, hk4.blk hbx (by decide) HgG.out, hbelx.trans (hbel4.mono s1), Nat.le_trans hGx hbel4.size⟩
        · have Hsep : Hid (([] : List UInt8) = (if 0 < k then [44] else [])) := Lib.hid (by rw [if_neg hk0])
          have hk1 : ¬ (0 : Int) < (k : Int) := by omega
          go_wp2
          go_meet
          exact ⟨[], Hsep, by simp, by simpa using hBx, hbx, hbelx, hGx⟩
      case rest =>
        clear hBx hbx hbelx hGx
        obtain ⟨sep, Hsep, hsepl, hB4, hbx4, hbel4, hG4⟩ := hcut
        rw [← Hsep.out] at Hnext
        have x0 := hbx4.cell 0
        have x1 := hbx4.cell 1
        simp only [List.getElem?_toArray, List.getElem?_cons_zero, List.getElem?_cons_succ] at x0 x1
        have hpl2 : (pre ++ sep).length ≤ 242 := by rw [List.length_append]; omega
        have Hpre2 : Hid ((pre ++ sep) ++ labT x = pre ++ (sep ++ labT x)) := Lib.hid (List.append_assoc _ _ _)
        rw [← Hpre2.out] at Hnext
        generalize pre ++ sep = pre2 at *
        go_wp2_with fail
        refine (wstr_calls G G pre2 _ _ hB4 (by rw [size_app2]; omega) hG4).mono ?_
        rintro e w5 ⟨rfl, hB5, hbel5, hk5⟩
        rw [app_lit] at hB5
        have hbx5 := hk5.blk hbx4 (by decide) HgG.out
        have k5 := hbel4.trans (hbel5.mono s1)
        have hG5 := Nat.le_trans hG4 hbel5.size
        have Hlab : Hid (labT x = x.1.data.toList ++ ([61, 34] ++ (valT x.2.data.toList ++ [34]))) := Lib.hid rfl
        have e61 : (⟨#[61, 34]⟩ : ByteArray).data.toList = [61, 34] := rfl
        rw [e61] at hB5
        have hnl := strlen x.1
        have hp3 : (pre2 ++ (x.1.data.toList ++ [61, 34])).length ≤ 252 := by
          simp only [List.length_append, List.length_cons, List.length_nil]; omega
        have Hpre3 : Hid (pre2 ++ labT x = (pre2 ++ (x.1.data.toList ++ [61, 34])) ++ (valT x.2.data.toList ++ [34])) := Lib.hid (by rw [Hlab.out]; simp [List.append_assoc])
        have hB5' : Bld w5 G G ((pre2 ++ (x.1.data.toList ++ [61, 34])) ++ valT (x.2.data.toList.take 0)) := by simpa [valT] using hB5
        clear hB4 hbx4 hbel4 hG4 hB5 hbel5 hk5 e61 x0 x1 hnl Hlab
        generalize pre2 ++ (x.1.data.toList ++ [61, 34]) = pre3 at *
        have y1 := hbx5.cell 1
        simp only [List.getElem?_toArray, List.getElem?_cons_zero, List.getElem?_cons_succ] at y1
        have HV := Lib.hid (strlen x.2)
        go_wp2
        go_loopw [30] (fun i wr => ∃ j : Nat, j ≤ x.2.size ∧ i = .int .i64 (j : Int) ∧ Bld wr G G (pre3 ++ valT (x.2.data.toList.take j)) ∧ Blk wr gx 37 #[.string x.1, .string x.2] ∧ Below w.heap.size w wr ∧ G ≤ wr.heap.size) (fun i _ => x.2.size - (intOf i).toNat)
        case atStart => exact ⟨0, Nat.zero_le _, rfl, hB5', hbx5, k5, hG5⟩
        case round =>
          obtain ⟨j, hj, rfl, hBj, hbxj, hbelj, hGj⟩ := hrel
          clear hB5' hbx5 k5 hG5 y1
          have y1 := hbxj.cell 1
          simp only [List.getElem?_toArray, List.getElem?_cons_zero, List.getElem?_cons_succ] at y1
          have hlen : (pre3 ++ valT (x.2.data.toList.take j)).length ≤ 300 := by
            have a1 := valT_len (x.2.data.toList.take j)
            have a2 : (x.2.data.toList.take j).length ≤ j := List.length_take_le _ _
            rw [List.length_append]; omega
          by_cases hjl : j < x.2.size
          · have Hcv := Lib.hid (at8_eq hjl)
            have hvt := valT_take (v := x.2.data.toList) (j := j) (c := x.2[j]) (by rw [HV.out]; exact hjl) Hcv.out
            have Hvt : Hid (pre3 ++ valT (x.2.data.toList.take (j + 1)) = (pre3 ++ valT (x.2.data.toList.take j)) ++ escB x.2[j]) := Lib.hid (by rw [hvt, List.append_assoc])
            have hP := fun W => plain_calls x.2[j] W
            have hc8 := UInt8.toNat_lt x.2[j]
            clear hvt
            generalize pre3 ++ valT (x.2.data.toList.take j) = cur at *
            by_cases hpb : plainB x.2[j] = true
            · rw [escB_plain hpb] at Hvt
              rw [hpb] at hP
              have HP := Lib.hid hP
              clear hP hpb
              go_wp2_with fail
              refine (HP.out _).mono ?_
              rintro e w' ⟨rfl, rfl⟩
              go_wp2_with fail
              refine (wbyte_calls G G cur x.2[j] _ hBj (by omega) hGj).mono ?_
              rintro e w6 ⟨rfl, hB6, hbel6, hk6⟩
              rw [← Hvt.out] at hB6
              go_wp2
              go_roundw
              case rel => exact ⟨j + 1, by omega, by go_num, hB6, hk6.blk hbxj (by decide) HgG.out, hbelj.trans (hbel6.mono s1), Nat.le_trans hGj hbel6.size⟩
              case measure => simp [intOf]; omega
            · have hpb' : plainB x.2[j] = false := by simpa using hpb
              rw [escB_hex hpb'] at Hvt
              rw [hpb'] at hP
              have HP := Lib.hid hP
              clear hP hpb hpb'
              go_wp2_with fail
              refine (HP.out _).mono ?_
              rintro e w' ⟨rfl, rfl⟩
              go_wp2_with fail
              have ih := idx_hi x.2[j]
              have il := idx_and x.2[j]
              go_still_tail 6, (by kernel_rfl)
              clear ih il
              have hcs := hex_cells x.2[j]
              have hbm := Blk.new (wr.drewN 1) 5 #[.int .u8 92, .int .u8 ((dig16 (x.2[j].toNat / 16)).toNat : Int), .int .u8 ((dig16 (x.2[j].toNat % 16)).toNat : Int)]
              have hBa := (hBj.drewN 1).alloc (.cells #[.int .u8 92, .int .u8 ((dig16 (x.2[j].toNat / 16)).toNat : Int), .int .u8 ((dig16 (x.2[j].toNat % 16)).toNat : Int)] 5)
              have hbxa := (hbxj.drewN 1).alloc (.cells #[.int .u8 92, .int .u8 ((dig16 (x.2[j].toNat / 16)).toNat : Int), .int .u8 ((dig16 (x.2[j].toNat % 16)).toNat : Int)] 5)
              have hsj := hbelj.size
              have hbela := (below_drewN_ hbelj 1).alloc hsj (.cells #[.int .u8 92, .int .u8 ((dig16 (x.2[j].toNat / 16)).toNat : Int), .int .u8 ((dig16 (x.2[j].toNat % 16)).toNat : Int)] 5)
              have hGa : G ≤ ((wr.drewN 1).alloc (.cells #[.int .u8 92, .int .u8 ((dig16 (x.2[j].toNat / 16)).toNat : Int), .int .u8 ((dig16 (x.2[j].toNat % 16)).toNat : Int)] 5)).heap.size := by rw [World.size_alloc]; exact Nat.le_succ_of_le hGj
              have hW := wbytes_calls (c := 3) G G cur _ _ hBa hbm hcs rfl (by simp; omega) hGa
              have HW := Lib.hid hW
              clear hW hBa hbm hcs
              go_wp2_with fail
              refine HW.out.mono ?_
              rintro e w6 ⟨rfl, hB6, hbel6, hk6⟩
              rw [← Hvt.out] at hB6
              go_wp2
              go_roundw
              case rel => exact ⟨j + 1, by omega, by go_num, hB6, hk6.blk hbxa (by decide) HgG.out, hbela.trans (hbel6.mono s1), Nat.le_trans hGa hbel6.size⟩
              case measure => simp [intOf]; omega
          · have hfull : x.2.data.toList.take j = x.2.data.toList := List.take_of_length_le (by rw [HV.out]; omega)
            rw [hfull] at hBj hlen
            clear hfull
            go_wp2_with fail
            refine (wstr_calls G G _ _ _ hBj (by simp [ByteArray.size] at hlen ⊢; omega) hGj).mono ?_
            rintro e w6 ⟨rfl, hB6, hbel6, hk6⟩
            have Hfin : Hid (pre3 ++ valT x.2.data.toList ++ (⟨#[34]⟩ : ByteArray).data.toList = 123 :: textK l (k + 1)) := Lib.hid (by rw [Hnext.out, Hpre3.out, List.append_assoc])
            rw [Hfin.out] at hB6
            go_wp2
            go_roundw
            case rel => exact ⟨k + 1, by omega, by go_num, hB6, hbelj.trans (hbel6.mono s1), Nat.le_trans hGj hbel6.size⟩
            case measure => simp [intOf]; omega
    · obtain rfl : k = l.length := by omega
      have hpl := HK.out l.length (Nat.le_refl _)
      go_wp2_with fail
      refine (wstr_calls G G _ _ _ hBk (by simp [ByteArray.size] at hpl ⊢; omega) hGs).mono ?_
      rintro e w6 ⟨rfl, hB6, hbel6, hk6⟩
      have e125 : (⟨#[125]⟩ : ByteArray).data.toList = [125] := rfl
      rw [e125, ← HT.out] at hB6
      have HB6 := Lib.hid hB6
      clear hB6 e125
      go_wp2_with fail
      refine (bstr_calls G G _ _ HB6.out (Nat.le_trans hGs hbel6.size)).mono ?_
      rintro e w7 ⟨rfl, hbel7⟩
      go_wp2
      go_ret2
      exact ⟨rfl, (hbel.trans (hbel6.mono s1)).trans (hbel7.mono s1)⟩
end Go.Proofs.Ytbnlfljlomhngaa
