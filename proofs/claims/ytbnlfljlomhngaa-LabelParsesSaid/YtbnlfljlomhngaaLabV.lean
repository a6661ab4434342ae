/- Labels (chapter 8): the reference's Byte, Value, Text; Same, Twin; the law's few and lives. -/
import Derived.Test.YtbnlfljlomhngaaLabU
namespace Go.Proofs.Ytbnlfljlomhngaa
open Go.RowKit

theorem conv_new (w : World) (m : List UInt8) (cs : Array Value) (n c : Nat) (hcs : cs.toList = m.map byteV) (hn : m.length = n) :
    (convert 55 9 (.slice (some ⟨w.heap.size, 0, none⟩) n c)).run Try.prog (w.alloc (.cells cs 5)) = .ok (.string ⟨m.toArray⟩) (w.alloc (.cells cs 5)) := by
  have hb : Bytes (w.alloc (.cells cs 5)) (w.alloc (.cells cs 5)).heap.size (some ⟨w.heap.size, 0, none⟩) n m := ⟨hn, blk_reads (Blk.new w _ cs) hcs hn⟩
  exact hb.conv Try.prog c 55 5 9 Try.underlying55 Try.underlying5 Try.underlying9

theorem conv_drew (w : World) (m : List UInt8) (cs : Array Value) (n c : Nat) (hcs : cs.toList = m.map byteV) (hn : m.length = n) :
    (convert 55 9 (.slice (some ⟨w.heap.size, 0, none⟩) n c)).run Try.prog (w.alloc (.cells cs 5)).drew = .ok (.string ⟨m.toArray⟩) (w.alloc (.cells cs 5)).drew := by
  have hb : Bytes (w.alloc (.cells cs 5)).drew (w.alloc (.cells cs 5)).heap.size (some ⟨w.heap.size, 0, none⟩) n m := Bytes.drew ⟨hn, blk_reads (Blk.new w _ cs) hcs hn⟩
  exact hb.conv Try.prog c 55 5 9 Try.underlying55 Try.underlying5 Try.underlying9

set_option maxRecDepth 100000 in
set_option maxHeartbeats 1600000 in
theorem byteR_calls (c : UInt8) (w : World) : Calls Try.prog 42 #[.int .u8 (c.toNat : Int)] w fun e w' => e = .returned (.string ⟨(escB c).toArray⟩) ∧ Below w.heap.size w w' := by
  have hcase : (plainB c = true ∧ 32 ≤ (c.toNat : Int) ∧ (c.toNat : Int) ≤ 126 ∧ ((c.toNat : Int) != 34) = true ∧ ((c.toNat : Int) != 92) = true) ∨
      (plainB c = false ∧ ((c.toNat : Int) < 32 ∨ (32 ≤ (c.toNat : Int) ∧ 126 < (c.toNat : Int)) ∨ (32 ≤ (c.toNat : Int) ∧ (c.toNat : Int) ≤ 126 ∧ ((c.toNat : Int) != 34) = false) ∨ (32 ≤ (c.toNat : Int) ∧ (c.toNat : Int) ≤ 126 ∧ ((c.toNat : Int) != 34) = true ∧ ((c.toNat : Int) != 92) = false))) := by
    have e1 : ((c.toNat : Int) != 34) = true ↔ c.toNat ≠ 34 := by rw [bne_iff_ne]; omega
    have e2 : ((c.toNat : Int) != 34) = false ↔ c.toNat = 34 := by rw [bne_eq_false_iff_eq]; omega
    have e3 : ((c.toNat : Int) != 92) = true ↔ c.toNat ≠ 92 := by rw [bne_iff_ne]; omega
    have e4 : ((c.toNat : Int) != 92) = false ↔ c.toNat = 92 := by rw [bne_eq_false_iff_eq]; omega
    unfold plainB
    rw [decide_eq_true_iff, decide_eq_false_iff_not, e1, e2, e3, e4]
    omega
  have hc8 := UInt8.toNat_lt c
  rcases hcase with ⟨hl, h1, h2, h3, h4⟩ | ⟨hl, h⟩
  · have HL := Lib.hid (escB_plain hl)
    clear hl
    have hcv := conv_new w [c] #[.int .u8 (c.toNat : Int)] 1 1 rfl rfl
    go_enter Try.func42, Try.ntmps42
    go_wp2
    go_ret
    exact ⟨by rw [HL.out]; rfl, (Below.refl _ _).alloc (Nat.le_refl _) _⟩
  · have HL := Lib.hid (escB_hex hl)
    clear hl
    have hcv := conv_drew w [92, dig16 (c.toNat / 16), dig16 (c.toNat % 16)] #[.int .u8 92, .int .u8 ((dig16 (c.toNat / 16)).toNat : Int), .int .u8 ((dig16 (c.toNat % 16)).toNat : Int)] 3 3 rfl rfl
    have Hcv := Lib.hid hcv
    have ih := idx_hi c
    have il := idx_lo c
    have e1 : IntKind.u8.wrap ((c.toNat : Int).tdiv 16) = (c.toNat : Int) / 16 := IntWalk.u8_quo _ _ (by omega)
    have e2 : (c.toNat : Int).tmod 16 = (c.toNat : Int) % 16 := IntWalk.rem_in _ _ (by omega)
    have e4 : IntKind.u8.wrap ((c.toNat : Int) / 16) = (c.toNat : Int) / 16 := IntWalk.u8_in _ (by omega)
    have e3 : IntKind.u8.wrap ((c.toNat : Int) % 16) = (c.toNat : Int) % 16 := IntWalk.u8_in _ (by omega)
    clear hcv
    rcases h with h1 | ⟨h1, h2⟩ | ⟨h1, h2, h3⟩ | ⟨h1, h2, h3, h4⟩
    all_goals
      go_enter Try.func42, Try.ntmps42
      go_wp2_with fail
      go_still_tail 8, (by kernel_rfl)
      clear ih il e1 e2 e3 e4
      have hcv := Hcv.out
      go_wp2
      go_ret
      exact ⟨by rw [HL.out]; rfl, (below_drewN_ (Below.refl _ _) 1).alloc (Nat.le_refl _) _⟩

theorem app_str (a b : List UInt8) : (⟨a.toArray⟩ : ByteArray) ++ ⟨b.toArray⟩ = ⟨(a ++ b).toArray⟩ := by
  apply ByteArray.ext
  apply Array.toList_inj.1
  simp
theorem mk_size (a : List UInt8) : (⟨a.toArray⟩ : ByteArray).size = a.length := by simp [ByteArray.size]

set_option maxRecDepth 100000 in
set_option maxHeartbeats 1600000 in
theorem valueR_calls (s : ByteArray) (w : World) (hs : s.size ≤ 1000000) : Calls Try.prog 34 #[.string s] w fun e w' => e = .returned (.string ⟨(valT s.data.toList).toArray⟩) ∧ Below w.heap.size w w' := by
  have HS := Lib.hid (strlen s)
  go_enter Try.func34, Try.ntmps34
  go_wp2
  go_loopw [3, 4] (fun r i wr => ∃ j : Nat, j ≤ s.size ∧ i = .int .i64 (j : Int) ∧ r = .string ⟨(valT (s.data.toList.take j)).toArray⟩ ∧ Below w.heap.size w wr) (fun _ i _ => s.size - (intOf i).toNat)
  case atStart => exact ⟨0, Nat.zero_le _, rfl, rfl, Below.refl _ _⟩
  case round =>
    obtain ⟨j, hj, rfl, rfl, hbel⟩ := hrel
    by_cases hjl : j < s.size
    · have Hcv := Lib.hid (at8_eq hjl)
      have hvt := valT_take (v := s.data.toList) (j := j) (c := s[j]) (by rw [HS.out]; exact hjl) Hcv.out
      have hln : (valT (s.data.toList.take j)).length ≤ 3000000 := by
        have a1 := valT_len (s.data.toList.take j)
        have a2 : (s.data.toList.take j).length ≤ j := List.length_take_le _ _
        omega
      have hle := escB_len s[j]
      have HB := Lib.hid (fun W => byteR_calls s[j] W)
      have hc8 := UInt8.toNat_lt s[j]
      have Hvt : Hid ((⟨(valT (s.data.toList.take j)).toArray⟩ : ByteArray) ++ ⟨(escB s[j]).toArray⟩ = ⟨(valT (s.data.toList.take (j + 1))).toArray⟩) := Lib.hid (by rw [app_str, hvt])
      have z1 := mk_size (valT (s.data.toList.take j))
      have z2 := mk_size (escB s[j])
      have z3 : (⟨(valT (s.data.toList.take j)).toArray⟩ : ByteArray).size ≤ 3000000 := by omega
      have z4 : (⟨(escB s[j]).toArray⟩ : ByteArray).size ≤ 3 := by omega
      clear z1 z2 hvt hln hle
      generalize (⟨(valT (s.data.toList.take j)).toArray⟩ : ByteArray) = r at *
      generalize (⟨(escB s[j]).toArray⟩ : ByteArray) = q at *
      go_wp2_with fail
      refine (HB.out _).mono ?_
      rintro e w2 ⟨rfl, hbel2⟩
      go_wp2
      go_roundw
      case rel => exact ⟨j + 1, by omega, by go_num, by rw [Hvt.out], hbel.trans (hbel2.mono hbel.size)⟩
      case measure => simp [intOf]; omega
    · have hfull : s.data.toList.take j = s.data.toList := List.take_of_length_le (by rw [HS.out]; omega)
      rw [hfull]
      go_wp2
      go_ret
      exact ⟨rfl, hbel⟩

set_option maxRecDepth 100000 in
set_option maxHeartbeats 1600000 in
theorem run_add2 {P : Program} {a b : ByteArray} (W : World) {n : Nat} (h : a.size ≤ n) (hb : b.size ≤ 1000 ∧ n ≤ 1000) : (Op.stringOp .add a b).run P W = .ok (.string (a ++ b)) W :=
  run_string_add_sum W a b (by omega)

theorem run_add1 {P : Program} {a : ByteArray} {c : UInt8} (W : World) {n : Nat} (h : a.size ≤ n) (hn : n ≤ 1000 := by decide) : (Op.stringOp .add a (⟨#[c]⟩ : ByteArray)).run P W = .ok (.string (a ++ (⟨#[c]⟩ : ByteArray))) W :=
  run_add2 W h ⟨by show 1 ≤ 1000; decide, hn⟩

theorem textR_calls (w : World) {B c : Nat} {A : Option Addr} {l : List Lab} (h : Labs w B A l) (hB : B ≤ w.heap.size) (hn : l.length ≤ 140737488355328) (hr : rightB l = true) :
    Calls Try.prog 17 #[.slice A l.length c] w fun e w' => e = .returned (.string ⟨(textB l).toArray⟩) ∧ Below w.heap.size w w' := by
  have HR : Hid (∀ k, k < l.length → (labAt l k).1.size ≤ 8 ∧ (labAt l k).2.size ≤ 16 ∧ l.length ≤ 4) := Lib.hid fun k hk => right_at hr hk
  have hl4 : l.length ≤ 4 := (of_decide_eq_true hr : rightP l).1
  have HK : Hid (∀ k, k ≤ l.length → (123 :: textK l k).length ≤ 241) := Lib.hid fun k hk => pre_len hr hk hl4
  have HT : Hid (textB l = 123 :: textK l l.length ++ [125]) := Lib.hid rfl
  clear hr
  go_enter Try.func17, Try.ntmps17
  go_wp2
  go_loopw [3, 8] (fun r i wr => ∃ k : Nat, k ≤ l.length ∧ i = .int .i64 (k : Int) ∧ r = .string ⟨(123 :: textK l k).toArray⟩ ∧ Below w.heap.size w wr) (fun _ i _ => l.length - (intOf i).toNat)
  case atStart => exact ⟨0, Nat.zero_le _, rfl, rfl, Below.refl _ _⟩
  case round =>
    obtain ⟨k, hk, rfl, rfl, hbel⟩ := hrel
    by_cases hlt : k < l.length
    · obtain ⟨b, off, rfl, hbB, hcell⟩ := (h.below (hbel.mono hB)).cellAt (show 0 < l.length by omega)
      obtain ⟨c0, c1⟩ := hcell k hlt
      have hsz := hbel.size
      obtain ⟨f0, f1, _⟩ := HR.out k hlt
      have hpl := HK.out k (by omega)
      have Hnext : Hid (123 :: textK l (k + 1) = (123 :: textK l k) ++ ((if 0 < k then [44] else []) ++ labT (labAt l k))) := Lib.hid (by rw [textK_succ]; rfl)
      have z1 : (⟨(123 :: textK l k).toArray⟩ : ByteArray).size ≤ 241 := by rw [mk_size]; exact hpl
      have Hpre : Hid ((⟨(123 :: textK l k).toArray⟩ : ByteArray).data.toList = 123 :: textK l k) := Lib.hid rfl
      clear hcell
      generalize hx : labAt l k = x at *
      clear hx
      generalize (⟨(123 :: textK l k).toArray⟩ : ByteArray) = r at *
      have hval := fun W => valueR_calls x.2 W (by omega)
      have HV := Lib.hid hval
      clear hval
      have hvl : (⟨(valT x.2.data.toList).toArray⟩ : ByteArray).size ≤ 48 := by
        rw [mk_size]
        have := valT_len x.2.data.toList
        have := strlen x.2
        omega
      have Hvl : Hid ((⟨(valT x.2.data.toList).toArray⟩ : ByteArray).data.toList = valT x.2.data.toList) := Lib.hid rfl
      generalize (⟨(valT x.2.data.toList).toArray⟩ : ByteArray) = vs at *
      by_cases hk0 : 0 < k
      · have Hfin : Hid (r ++ (⟨#[44]⟩ : ByteArray) ++ x.1 ++ (⟨#[61]⟩ : ByteArray) ++ (⟨#[34]⟩ : ByteArray) ++ vs ++ (⟨#[34]⟩ : ByteArray) = ⟨(123 :: textK l (k + 1)).toArray⟩) := Lib.hid (by
          apply ByteArray.ext
          apply Array.toList_inj.1
          rw [Hnext.out, if_pos hk0]
          simp only [app_lit, Hpre.out, Hvl.out, labT]
          simp)
        have hk1 : (0 : Int) < (k : Int) := by omega
        have q1 : ∀ W, (Op.stringOp .add r (⟨#[44]⟩ : ByteArray)).run Try.prog W = .ok (.string (r ++ (⟨#[44]⟩ : ByteArray))) W := fun W => run_add1 W z1
        have z2 : (r ++ (⟨#[44]⟩ : ByteArray)).size ≤ 242 := by rw [ByteArray.size_append]; exact Nat.add_le_add z1 (Nat.le_refl 1)
        have q2 : ∀ W, (Op.stringOp .add (r ++ (⟨#[44]⟩ : ByteArray)) x.1).run Try.prog W = .ok (.string (r ++ (⟨#[44]⟩ : ByteArray) ++ x.1)) W := fun W => run_add2 W z2 (by omega)
        have z3 : (r ++ (⟨#[44]⟩ : ByteArray) ++ x.1).size ≤ 250 := by rw [ByteArray.size_append]; omega
        have q3 : ∀ W, (Op.stringOp .add (r ++ (⟨#[44]⟩ : ByteArray) ++ x.1) (⟨#[61]⟩ : ByteArray)).run Try.prog W = .ok (.string (r ++ (⟨#[44]⟩ : ByteArray) ++ x.1 ++ (⟨#[61]⟩ : ByteArray))) W := fun W => run_add1 W z3
        have z4 : (r ++ (⟨#[44]⟩ : ByteArray) ++ x.1 ++ (⟨#[61]⟩ : ByteArray)).size ≤ 251 := by rw [ByteArray.size_append]; exact Nat.add_le_add z3 (Nat.le_refl 1)
        have q4 : ∀ W, (Op.stringOp .add (r ++ (⟨#[44]⟩ : ByteArray) ++ x.1 ++ (⟨#[61]⟩ : ByteArray)) (⟨#[34]⟩ : ByteArray)).run Try.prog W = .ok (.string (r ++ (⟨#[44]⟩ : ByteArray) ++ x.1 ++ (⟨#[61]⟩ : ByteArray) ++ (⟨#[34]⟩ : ByteArray))) W := fun W => run_add1 W z4
        have z5 : (r ++ (⟨#[44]⟩ : ByteArray) ++ x.1 ++ (⟨#[61]⟩ : ByteArray) ++ (⟨#[34]⟩ : ByteArray)).size ≤ 252 := by rw [ByteArray.size_append]; exact Nat.add_le_add z4 (Nat.le_refl 1)
        have q5 : ∀ W, (Op.stringOp .add (r ++ (⟨#[44]⟩ : ByteArray) ++ x.1 ++ (⟨#[61]⟩ : ByteArray) ++ (⟨#[34]⟩ : ByteArray)) vs).run Try.prog W = .ok (.string (r ++ (⟨#[44]⟩ : ByteArray) ++ x.1 ++ (⟨#[61]⟩ : ByteArray) ++ (⟨#[34]⟩ : ByteArray) ++ vs)) W := fun W => run_add2 W z5 (by omega)
        have z6 : (r ++ (⟨#[44]⟩ : ByteArray) ++ x.1 ++ (⟨#[61]⟩ : ByteArray) ++ (⟨#[34]⟩ : ByteArray) ++ vs).size ≤ 300 := by rw [ByteArray.size_append]; omega
        have q6 : ∀ W, (Op.stringOp .add (r ++ (⟨#[44]⟩ : ByteArray) ++ x.1 ++ (⟨#[61]⟩ : ByteArray) ++ (⟨#[34]⟩ : ByteArray) ++ vs) (⟨#[34]⟩ : ByteArray)).run Try.prog W = .ok (.string (r ++ (⟨#[44]⟩ : ByteArray) ++ x.1 ++ (⟨#[61]⟩ : ByteArray) ++ (⟨#[34]⟩ : ByteArray) ++ vs ++ (⟨#[34]⟩ : ByteArray))) W := fun W => run_add1 W z6
        go_wp2_with fail
        go_region_held3 (fun w' => w'.cell? ⟨wr.heap.size, 0, none⟩ = some (.string x.1) ∧ w'.cell? ⟨wr.heap.size, 1, none⟩ = some (.string x.2)) (go_keep) ((go_at_call 34; refine (HV.out _).mono ?_; rintro en w3 ⟨rfl, hbel3⟩; have hbx3 := ((Blk.new wr 37 #[.string x.1, .string x.2]).drewN 1).below hbel3 (by simp); have y0 : w3.cell? ⟨wr.heap.size, 0, none⟩ = some (.string x.1) := hbx3.cell 0; have y1 : w3.cell? ⟨wr.heap.size, 1, none⟩ = some (.string x.2) := hbx3.cell 1))
        have hbel4 : Below w.heap.size w w3 := (below_drewN_ (hbel.alloc hsz (.cells #[.string x.1, .string x.2] 37)) 1).trans (hbel3.mono (by simp; omega))
        go_wp2
        go_roundw
        case rel => exact ⟨k + 1, by omega, by go_num, by rw [Hfin.out], hbel4⟩
        case measure => simp [intOf]; omega
      · have Hfin : Hid (r ++ x.1 ++ (⟨#[61]⟩ : ByteArray) ++ (⟨#[34]⟩ : ByteArray) ++ vs ++ (⟨#[34]⟩ : ByteArray) = ⟨(123 :: textK l (k + 1)).toArray⟩) := Lib.hid (by
          apply ByteArray.ext
          apply Array.toList_inj.1
          rw [Hnext.out, if_neg hk0]
          simp only [app_lit, Hpre.out, Hvl.out, labT]
          simp)
        have hk1 : ¬ (0 : Int) < (k : Int) := by omega
        have q2 : ∀ W, (Op.stringOp .add (r) x.1).run Try.prog W = .ok (.string (r ++ x.1)) W := fun W => run_add2 W z1 (by omega)
        have z3 : (r ++ x.1).size ≤ 250 := by rw [ByteArray.size_append]; omega
        have q3 : ∀ W, (Op.stringOp .add (r ++ x.1) (⟨#[61]⟩ : ByteArray)).run Try.prog W = .ok (.string (r ++ x.1 ++ (⟨#[61]⟩ : ByteArray))) W := fun W => run_add1 W z3
        have z4 : (r ++ x.1 ++ (⟨#[61]⟩ : ByteArray)).size ≤ 251 := by rw [ByteArray.size_append]; exact Nat.add_le_add z3 (Nat.le_refl 1)
        have q4 : ∀ W, (Op.stringOp .add (r ++ x.1 ++ (⟨#[61]⟩ : ByteArray)) (⟨#[34]⟩ : ByteArray)).run Try.prog W = .ok (.string (r ++ x.1 ++ (⟨#[61]⟩ : ByteArray) ++ (⟨#[34]⟩ : ByteArray))) W := fun W => run_add1 W z4
        have z5 : (r ++ x.1 ++ (⟨#[61]⟩ : ByteArray) ++ (⟨#[34]⟩ : ByteArray)).size ≤ 252 := by rw [ByteArray.size_append]; exact Nat.add_le_add z4 (Nat.le_refl 1)
        have q5 : ∀ W, (Op.stringOp .add (r ++ x.1 ++ (⟨#[61]⟩ : ByteArray) ++ (⟨#[34]⟩ : ByteArray)) vs).run Try.prog W = .ok (.string (r ++ x.1 ++ (⟨#[61]⟩ : ByteArray) ++ (⟨#[34]⟩ : ByteArray) ++ vs)) W := fun W => run_add2 W z5 (by omega)
        have z6 : (r ++ x.1 ++ (⟨#[61]⟩ : ByteArray) ++ (⟨#[34]⟩ : ByteArray) ++ vs).size ≤ 300 := by rw [ByteArray.size_append]; omega
        have q6 : ∀ W, (Op.stringOp .add (r ++ x.1 ++ (⟨#[61]⟩ : ByteArray) ++ (⟨#[34]⟩ : ByteArray) ++ vs) (⟨#[34]⟩ : ByteArray)).run Try.prog W = .ok (.string (r ++ x.1 ++ (⟨#[61]⟩ : ByteArray) ++ (⟨#[34]⟩ : ByteArray) ++ vs ++ (⟨#[34]⟩ : ByteArray))) W := fun W => run_add1 W z6
        go_wp2_with fail
        go_region_held3 (fun w' => w'.cell? ⟨wr.heap.size, 0, none⟩ = some (.string x.1) ∧ w'.cell? ⟨wr.heap.size, 1, none⟩ = some (.string x.2)) (go_keep) ((go_at_call 34; refine (HV.out _).mono ?_; rintro en w3 ⟨rfl, hbel3⟩; have hbx3 := ((Blk.new wr 37 #[.string x.1, .string x.2]).drewN 1).below hbel3 (by simp); have y0 : w3.cell? ⟨wr.heap.size, 0, none⟩ = some (.string x.1) := hbx3.cell 0; have y1 : w3.cell? ⟨wr.heap.size, 1, none⟩ = some (.string x.2) := hbx3.cell 1))
        have hbel4 : Below w.heap.size w w3 := (below_drewN_ (hbel.alloc hsz (.cells #[.string x.1, .string x.2] 37)) 1).trans (hbel3.mono (by simp; omega))
        go_wp2
        go_roundw
        case rel => exact ⟨k + 1, by omega, by go_num, by rw [Hfin.out], hbel4⟩
        case measure => simp [intOf]; omega
    · have hkl : k = l.length := by omega
      subst hkl
      have hpl := HK.out l.length (Nat.le_refl _)
      have Hout : Hid ((⟨(123 :: textK l l.length).toArray⟩ : ByteArray) ++ (⟨#[125]⟩ : ByteArray) = ⟨(textB l).toArray⟩) := Lib.hid (by
        apply ByteArray.ext
        apply Array.toList_inj.1
        rw [HT.out, app_lit])
      have z1 : (⟨(123 :: textK l l.length).toArray⟩ : ByteArray).size ≤ 241 := by rw [mk_size]; exact hpl
      generalize (⟨(123 :: textK l l.length).toArray⟩ : ByteArray) = r at *
      have q1 : ∀ W, (Op.stringOp .add r (⟨#[125]⟩ : ByteArray)).run Try.prog W = .ok (.string (r ++ (⟨#[125]⟩ : ByteArray))) W := fun W => run_add1 W z1
      go_wp2
      go_ret
      exact ⟨by rw [Hout.out]; rfl, hbel⟩

end Go.Proofs.Ytbnlfljlomhngaa
