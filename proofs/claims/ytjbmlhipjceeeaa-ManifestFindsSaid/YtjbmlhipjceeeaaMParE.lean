/- Parse of the code (chapter 8): the walk. -/
import Derived.Test.YtjbmlhipjceeeaaProg
import Derived.Test.YtjbmlhipjceeeaaMParD
namespace Go.Proofs.Ytjbmlhipjceeeaa.Lb
open Go.RowKit

theorem cell0_below {w w' : World} {m : Int} (h : w.cell? ⟨0, 0, none⟩ = some (.int .i64 m)) (hb : Below w.heap.size w w') : w'.cell? ⟨0, 0, none⟩ = some (.int .i64 m) := by
  rw [hb.cell (p := ⟨0, 0, none⟩) (World.block_lt_of_cell? w _ h)]
  exact h

set_option maxRecDepth 100000 in
set_option maxHeartbeats 3200000 in
theorem parse_calls (s : ByteArray) (w : World) (hs : s.size ≤ 100000) (hm : ∃ m, w.cell? ⟨0, 0, none⟩ = some (.int .i64 m)) :
    Calls Try.prog 55 #[.string s] w (ParRet w s.data.toList (.int .i64 0) (.int .i64 4)) := by
  have HL : Hid (s.data.toList.length = s.size) := Lib.hid (by rw [Array.length_toList]; rfl)
  by_cases h2 : s.size < 2
  · have HN := Lib.hid (not_par_short (S := s.data.toList) (by rw [HL.out]; exact h2))
    go_enter Try.func55, Try.ntmps55
    go_wp2
    go_ret2
    exact .inr ⟨rfl, HN.out, Below.refl _ _⟩
  have h2' : 2 ≤ s.size := by omega
  have j0 : 0 < s.size := by omega
  have j1 : s.size - 1 < s.size := by omega
  have c0 := at8_eq j0
  have c1 := at8_eq j1
  have e1 : ((s.size : Int) - 1).toNat = s.size - 1 := by omega
  by_cases h0 : ((s[0].toNat : Int) == 123) = true
  case neg =>
    have h0' : ((s[0].toNat : Int) != 123) = true := by simpa using h0
    have HN := Lib.hid (not_par_head (S := s.data.toList) (drop8 j0) (fun e => h0 (by rw [c0, e]; rfl)))
    clear h0 c0 c1
    go_enter Try.func55, Try.ntmps55
    go_wp2
    go_ret2
    exact .inr ⟨rfl, HN.out, Below.refl _ _⟩
  have h0' : ((s[0].toNat : Int) != 123) = false := by simpa using h0
  have g0 : at8 s 0 = 123 := by
    rw [← c0]
    rw [beq_iff_eq] at h0
    exact UInt8.toNat_inj.1 (by show s[0].toNat = 123; omega)
  by_cases h1 : ((s[s.size - 1].toNat : Int) == 125) = true
  case neg =>
    have h1' : ((s[s.size - 1].toNat : Int) != 125) = true := by simpa using h1
    have HN := Lib.hid (not_par_last (S := s.data.toList) (k := s.size - 1) (by rw [HL.out]; omega) (at8_get j1) (fun e => h1 (by rw [c1, e]; rfl)))
    clear h1 h0 g0 c0 c1
    go_enter Try.func55, Try.ntmps55
    go_wp2
    go_ret2
    exact .inr ⟨rfl, HN.out, Below.refl _ _⟩
  have h1' : ((s[s.size - 1].toNat : Int) != 125) = false := by simpa using h1
  have g1 : at8 s (s.size - 1) = 125 := by
    rw [← c1]
    rw [beq_iff_eq] at h1
    exact UInt8.toNat_inj.1 (by show s[s.size - 1].toNat = 125; omega)
  have HS := Lib.hid (mid_list h2' g0 g1)
  clear h0 h1 g0 g1 c0 c1
  obtain ⟨m, hm⟩ := hm
  have HM := Lib.hid hm
  clear hm
  have i1 : (1 : Int) ≤ (s.size : Int) - 1 := by omega
  have i2 : (s.size : Int) - 1 ≤ (s.size : Int) := by omega
  have ez : (s.extract 1 (s.size - 1)).size ≤ 100000 := by rw [ByteArray.size_extract]; omega
  go_enter Try.func55, Try.ntmps55
  go_wp2
  clear h0' h1'
  generalize s.extract 1 (s.size - 1) = t at *
  have HT : Hid (t.data.toList.length = t.size) := Lib.hid (by rw [Array.length_toList]; rfl)
  have Hno : Hid (NoSet t.data.toList → ∀ l, ¬ ParP s.data.toList l) := Lib.hid fun h => noSet_par h HS.out
  go_loopw [4, 5] (fun o a wr => ∃ (q : Nat) (out : List Lab) (A : Option Addr) (co : Nat), o = .slice A out.length co ∧ a = .int .i64 (q : Int) ∧ q ≤ t.size ∧ out.length ≤ 5 ∧ Hid (St t.data.toList out q) ∧ Hid (Fit out) ∧ wr.ownsRow w.heap.size 104 2 (.slice A out.length co) out.length (labCells out) ∧ Below w.heap.size w wr) (fun _ a _ => t.size - (intOf a).toNat)
  case atStart => exact ⟨0, [], none, 0, rfl, rfl, Nat.zero_le _, by simp, Lib.hid (St.start _), Lib.hid (fun x hx => by cases hx), World.ownsRow_nil _ _ _ _, Below.refl _ _⟩
  case round =>
    obtain ⟨q, out, A, co, rfl, rfl, hq, ho5, HSt, HFit, hown, hbel⟩ := hrel
    have hsz := hbel.size
    by_cases hlt : q < t.size
    · have Hdr := Lib.hid (drop8 hlt)
      have Hc := Lib.hid (at8_eq hlt)
      go_upto_if 37 with (fail)
      go_cut [5] (fun a wx => ∃ q' : Nat, a = .int .i64 (q' : Int) ∧ q' ≤ t.size ∧ q ≤ q' ∧ Hid (St2 t.data.toList out q') ∧ wx = wr)
      case first =>
        by_cases hne : 0 < out.length
        · have hne' : out ≠ [] := by intro e; rw [e] at hne; simp at hne
          by_cases hcm : ((t[q].toNat : Int) == 44) = true
          · have hcm' : ((t[q].toNat : Int) != 44) = false := by simpa using hcm
            have HS2 := Lib.hid (HSt.out.comma hne' (X := t.data.toList.drop (q + 1)) (by
              rw [Hdr.out, ← Hc.out]
              congr 1
              rw [beq_iff_eq] at hcm
              exact UInt8.toNat_inj.1 (by show t[q].toNat = 44; omega)))
            clear hcm hne'
            go_wp2
            go_meet
            case rel => exact ⟨q + 1, by go_num, by omega, by omega, HS2, rfl⟩
          · have hcm' : ((t[q].toNat : Int) != 44) = true := by simpa using hcm
            have HN := Lib.hid (Hno.out (HSt.out.nocomma hne' Hdr.out (fun e => hcm (by rw [Hc.out, e]; rfl))))
            clear hcm hne'
            go_wp2
            go_ret2
            exact .inr ⟨rfl, HN.out, hbel⟩
        · have h0 : out = [] := by cases out with
            | nil => rfl
            | cons x r => simp at hne
          have HS2 := Lib.hid (St.more0 (by rw [← h0]; exact HSt.out) (by rw [HT.out]; exact hlt))
          rw [← h0] at HS2
          clear h0
          go_wp2
          go_meet
          case rel => exact ⟨q, rfl, by omega, by omega, HS2, rfl⟩
      case rest =>
        obtain ⟨q', rfl, hq', hqq, HS2, rfl⟩ := hcut
        clear Hdr Hc hlt
        have hxs : (t.extract q' t.size).size = t.size - q' := by rw [ByteArray.size_extract]; omega
        have hxl : (t.extract q' t.size).data.toList = t.data.toList.drop q' := by rw [ext_list, List.take_of_length_le (by rw [List.length_drop, HT.out]; omega)]
        have hm' := cell0_below HM.out hbel
        have hidx := fun W hc => Try.strings_Index (t.extract q' t.size) ⟨#[61, 34]⟩ m W (by omega) hc
        rw [hxl] at hidx
        have i1 : (q' : Int) ≤ (t.size : Int) := by omega
        have hsz := hbel.size
        rcases index_eq (t.data.toList.drop q') with ⟨h1, h2⟩ | ⟨i, h1, h2, h3, h4⟩
        · have HN := Lib.hid (Hno.out (HS2.out.noeq h2))
          have hidx2 : ∀ W, W.cell? ⟨0, 0, none⟩ = some (.int .i64 m) → Calls Try.prog 64 #[.string (t.extract q' t.size), .string ⟨#[61, 34]⟩] W fun e w' => e = .returned (.int .i64 (-1)) ∧ w' = W := by rw [← h1]; exact hidx
          have HI := Lib.hid hidx2
          clear hidx hidx2 h1 h2 hxl hxs
          go_wp2_with fail
          refine (HI.out _ hm').mono ?_
          rintro e w1 ⟨rfl, rfl⟩
          go_wp2
          go_ret2
          exact .inr ⟨rfl, HN.out, hbel⟩
        · have hidx2 : ∀ W, W.cell? ⟨0, 0, none⟩ = some (.int .i64 m) → Calls Try.prog 64 #[.string (t.extract q' t.size), .string ⟨#[61, 34]⟩] W fun e w' => e = .returned (.int .i64 (i : Int)) ∧ w' = W := by rw [← h1]; exact hidx
          have HI := Lib.hid hidx2
          rw [List.length_drop, HT.out] at h2
          rw [List.drop_drop, show q' + (i + 2) = q' + i + 2 by omega] at h3
          have Hi := Lib.hid h3
          have H4 := Lib.hid h4
          have hil : Hid (((t.data.toList.drop q').take i).length = i) := Lib.hid (by rw [List.length_take, List.length_drop, HT.out]; omega)
          clear hidx hidx2 h1 h3 h4 hxl hxs
          by_cases h5 : 4 < out.length
          · have HN := Lib.hid (Hno.out (HS2.out.many h5))
            have d5 : decide ((4 : Int) < (out.length : Int)) = true := dct (by omega)
            go_wp2_with fail
            refine (HI.out _ hm').mono ?_
            rintro e w1 ⟨rfl, rfl⟩
            go_wp2
            go_ret2
            exact .inr ⟨rfl, HN.out, hbel⟩
          · have d5 : decide ((4 : Int) < (out.length : Int)) = false := dcf (by omega)
            have hval := fun W => value_calls t (q' + i + 2) W (by omega) (by omega)
            rw [show ((q' + i + 2 : Nat) : Int) = (q' : Int) + (i : Int) + 2 by omega] at hval
            have HV := Lib.hid hval
            clear hval
            go_wp2_with fail
            refine (HI.out _ hm').mono ?_
            rintro e w1 ⟨rfl, rfl⟩
            go_wp2_with fail
            refine (HV.out _).mono ?_
            rintro e w1 ⟨hret, hb1⟩
            have s1 := hb1.size
            rcases hret with ⟨v, rfl, hv1, hv2⟩ | ⟨x, k, rfl, hv⟩
            · have hvl := valT_ge v
              rw [HT.out] at hv2
              have hSt := fun (n : ByteArray) (hn : n.data.toList = (t.data.toList.drop q').take i) => HS2.out.label Hi.out H4.out hil.out (n := n) (v := ⟨v.toArray⟩) hn (by simpa using hv1)
              have Hst := Lib.hid (hSt (t.extract q' (q' + i)) (by rw [ext_list, show q' + i - q' = i by omega]))
              have hns : (t.extract q' (q' + i)).size = i := by rw [ByteArray.size_extract]; omega
              have hvs : (⟨v.toArray⟩ : ByteArray).size = v.length := mk_size v
              have Hfit2 : Hid (Fit (out ++ [(t.extract q' (q' + i), ⟨v.toArray⟩)])) := Lib.hid (fun y hy => by
                rcases List.mem_append.1 hy with hy | hy
                · exact HFit.out y hy
                · simp at hy
                  subst hy
                  exact ⟨by simp only; omega, by simp only; omega⟩)
              have hown1 := own_below hown hb1
              have e9 : ((q' : Int) + (i : Int)).toNat = q' + i := by omega
              have i9 : (q' : Int) + (i : Int) ≤ (t.size : Int) := by omega
              clear hSt hv1 hvs
              have hnn : (⟨v.toArray⟩ : ByteArray).data.toList = v := rfl
              rw [hnn] at Hst
              generalize (⟨v.toArray⟩ : ByteArray) = vb at *
              clear hns
              have hrd : Reads (w1.alloc (.cells #[.string (t.extract q' (q' + i)), .string vb] 104)) (w1.heap.size + 1) 2 (some ⟨w1.heap.size, 0, none⟩) 1 (labCells [(t.extract q' (q' + i), vb)]) := Reads.made (n := 1) (size := 2) w1 #[.string (t.extract q' (q' + i)), .string vb] 104 rfl
              go_wp2_with (at_builtin; go_must (refine wpList_append_sl _ rfl (.tmp 67) (.tmp 76) _ rfl w.heap.size 104 _ 2 32 Try.underlying88 Try.infoLab rfl (by omega) _ _ _ rfl (hown1.alloc _) (w1.heap.size + 1) _ 1 1 (labCells [(t.extract q' (q' + i), vb)]) rfl hrd (labCells_one _) (by unfold maxLen; omega) (by omega) (by simp; omega) ?_))
              intro A2' c2' w2 hc1 hc2 hrd2 hbel2 hown2 _ _
              have hown3 : w2.ownsRow w.heap.size 104 2 (.slice A2' (out ++ [(t.extract q' (q' + i), vb)]).length c2') (out ++ [(t.extract q' (q' + i), vb)]).length (labCells (out ++ [(t.extract q' (q' + i), vb)])) := by rw [labCells_app, List.length_append]; exact hown2
              have hbe : Below w.heap.size w w2 := ((hbel.trans (hb1.mono hsz)).alloc (by omega) _).trans hbel2
              clear hown2 hown1 hown hrd2
              go_wp2
              go_roundw
              case rel => exact ⟨q' + i + 2 + (valT v).length + 1, out ++ [(t.extract q' (q' + i), vb)], A2', c2', by simp, by go_num, by omega, by simp; omega, Hst, Hfit2, hown3, hbe⟩
              case measure => simp [intOf]; omega
            · have HN := Lib.hid (Hno.out (HS2.out.noval Hi.out H4.out hv))
              clear hv
              go_wp2
              go_ret2
              exact .inr ⟨rfl, HN.out, hbel.trans (hb1.mono hsz)⟩
    · obtain rfl : q = t.size := by omega
      have hrd := Reads.of_own hown
      have hlab : Labs wr wr.heap.size A out := hrd
      have hRC := right_calls wr (c := co) hlab (Nat.le_refl _) HFit.out (by omega)
      have HSt' : Hid (St t.data.toList out t.data.toList.length) := Lib.hid (by rw [HT.out]; exact HSt.out)
      cases hr : rightB out
      · have HN := Lib.hid (Hno.out (HSt'.out.finno hr))
        rw [hr] at hRC
        have HRC := Lib.hid hRC
        clear hRC hr
        go_wp2_with fail
        refine HRC.out.mono ?_
        rintro e w1 ⟨rfl, hb1⟩
        go_wp2
        go_ret2
        exact .inr ⟨rfl, HN.out, hbel.trans (hb1.mono hsz)⟩
      · have HP := Lib.hid (par_of HS.out hr HSt'.out.fin)
        rw [hr] at hRC
        have HRC := Lib.hid hRC
        clear hRC hr
        go_wp2_with fail
        refine HRC.out.mono ?_
        rintro e w1 ⟨rfl, hb1⟩
        go_wp2
        go_ret2
        exact .inl ⟨out, A, co, rfl, HP.out, (hlab.below hb1).more hb1.size, hbel.trans (hb1.mono hsz)⟩
end Go.Proofs.Ytjbmlhipjceeeaa.Lb
