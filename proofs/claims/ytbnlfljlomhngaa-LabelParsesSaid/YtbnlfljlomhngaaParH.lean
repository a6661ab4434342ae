/- Parse of the reference: the walk (chapter 8). -/
import Derived.Test.YtbnlfljlomhngaaProg
import Derived.Test.YtbnlfljlomhngaaParG
namespace Go.Proofs.Ytbnlfljlomhngaa
open Go.RowKit

theorem ext_none (s : ByteArray) (a : Nat) : s.extract a a = ⟨#[]⟩ := bytes_ext (by rw [ext_list, Nat.sub_self, List.take_zero])
theorem par_nil : ParP [123, 125] [] := ⟨by decide +kernel, by decide +kernel⟩
theorem brace_list : (⟨#[123, 125]⟩ : ByteArray).toList = [123, 125] := by decide +kernel
theorem str_eq (s t : ByteArray) : (s.toList == t.toList) = true → s = t := fun h => by
  rw [bytes_eqd, decide_eq_true_iff] at h
  exact h

set_option maxRecDepth 100000 in
set_option maxHeartbeats 6400000 in
theorem parseR_calls (s : ByteArray) (w : World) (hs : s.size ≤ 600) :
    Calls Try.prog 26 #[.string s] w (ParRet w s.data.toList (.bool true) (.bool false)) := by
  have HL : Hid (s.data.toList.length = s.size) := Lib.hid (by rw [Array.length_toList]; rfl)
  have hbw : Below w.heap.size w (w.alloc (.cells #[] 37)) := (Below.refl _ _).alloc (Nat.le_refl _) _
  by_cases h2 : s.size < 2
  · have HN := Lib.hid (not_par_short (S := s.data.toList) (by rw [HL.out]; exact h2))
    go_enter Try.func26, Try.ntmps26
    go_wp2
    go_ret2
    exact .inr ⟨rfl, HN.out, hbw⟩
  have h2' : 2 ≤ s.size := by omega
  have j0 : 0 < s.size := by omega
  have j1 : s.size - 1 < s.size := by omega
  have c0 := at8_eq j0
  have c1 := at8_eq j1
  have e1 : ((s.size : Int) - 1).toNat = s.size - 1 := by omega
  by_cases h0 : ((s[0].toNat : Int) == 123) = true
  case neg =>
    have h0' : ((s[0].toNat : Int) != 123) = true := by simpa using h0
    have HN := Lib.hid (not_par_head (S := s.data.toList) (drop8 j0) (fun e => h0 (by rw [c0, e]; rfl)))
    clear h0 c0 c1
    go_enter Try.func26, Try.ntmps26
    go_wp2
    go_ret2
    exact .inr ⟨rfl, HN.out, hbw⟩
  have h0' : ((s[0].toNat : Int) != 123) = false := by simpa using h0
  have g0 : at8 s 0 = 123 := by
    rw [← c0]
    rw [beq_iff_eq] at h0
    exact UInt8.toNat_inj.1 (by show s[0].toNat = 123; omega)
  by_cases h1 : ((s[s.size - 1].toNat : Int) == 125) = true
  case neg =>
    have h1' : ((s[s.size - 1].toNat : Int) != 125) = true := by simpa using h1
    have HN := Lib.hid (not_par_last (S := s.data.toList) (k := s.size - 1) (by rw [HL.out]; omega) (at8_get j1) (fun e => h1 (by rw [c1, e]; rfl)))
    clear h1 h0 g0 c0 c1
    go_enter Try.func26, Try.ntmps26
    go_wp2
    go_ret2
    exact .inr ⟨rfl, HN.out, hbw⟩
  have h1' : ((s[s.size - 1].toNat : Int) != 125) = false := by simpa using h1
  have g1 : at8 s (s.size - 1) = 125 := by
    rw [← c1]
    rw [beq_iff_eq] at h1
    exact UInt8.toNat_inj.1 (by show s[s.size - 1].toNat = 125; omega)
  have HS := Lib.hid (mid_list h2' g0 g1)
  have HG1 := Lib.hid g1
  clear h0 h1 g0 g1 c0 c1
  generalize hT : (s.extract 1 (s.size - 1)).data.toList = T at *
  have hTl : T.length = s.size - 2 := by rw [← hT, Array.length_toList]; show (s.extract 1 (s.size - 1)).size = _; rw [ByteArray.size_extract]; omega
  have HTl := Lib.hid hTl
  clear hT hTl
  have Hno : Hid (NoSet T → ∀ l, ¬ ParP s.data.toList l) := Lib.hid fun h => noSet_par h HS.out
  by_cases hq : (s.toList == [123, 125]) = true
  · have HE : Hid (s.data.toList = [123, 125]) := Lib.hid (by rw [← brace_list] at hq; rw [str_eq _ _ hq])
    go_enter Try.func26, Try.ntmps26
    go_wp2
    go_ret2
    exact .inl ⟨[], _, _, rfl, by rw [HE.out]; exact par_nil, Labs.nil_, hbw⟩
  have hq' : (s.toList == [123, 125]) = false := by simpa using hq
  have Hpos : Hid (0 < T.length) := Lib.hid (by
    rcases Nat.eq_zero_or_pos T.length with h | h
    · exfalso
      refine hq ?_
      rw [← brace_list, bytes_eqd, decide_eq_true_iff]
      refine bytes_ext ?_
      rw [HS.out, List.eq_nil_of_length_eq_zero h]
      rfl
    · exact h)
  clear hq
  go_enter Try.func26, Try.ntmps26
  go_wp2
  go_loopw [4, 5] (fun o a wr => ∃ (p q : Nat) (out : List Lab) (A : Option Addr) (co : Nat), o = .slice A out.length co ∧ a = .int .i64 (p : Int) ∧ Hid (p = 1 + q) ∧ p + 1 ≤ s.size ∧ out.length ≤ 5 ∧ Hid (St2 T out q) ∧ Hid (Fit out) ∧ wr.ownsRow w.heap.size 37 2 (.slice A out.length co) out.length (labCells out) ∧ Below w.heap.size w wr) (fun _ a _ => s.size - (intOf a).toNat)
  case atStart => exact ⟨1, 0, [], _, _, rfl, rfl, Lib.hid rfl, by omega, by simp, Lib.hid (St.more0 (St.start _) Hpos.out), Lib.hid (fun x hx => by cases hx), World.ownsRow_made w #[] 0 (Nat.le_refl _) (Nat.zero_le _) rfl, hbw⟩
  case round =>
    obtain ⟨p, q, out, A, co, rfl, rfl, Hpq, hp, ho5, HSt, HFit, hown, hbel⟩ := hrel
    have hsz := hbel.size
    by_cases h5 : out.length = 5
    · have HN := Lib.hid (Hno.out (HSt.out.many (by omega)))
      have hlab : Labs wr wr.heap.size A out := Reads.of_own hown
      have hRC := rightR_calls wr (c := co) hlab HFit.out (by omega)
      have hr : rightB out = false := rightB_no fun h => by have := h.1; omega
      rw [hr] at hRC
      have HRC := Lib.hid hRC
      have i5 : ¬ (out.length : Int) < 5 := by omega
      clear hRC hr h5
      by_cases hend : p + 1 = s.size
      · have he1 : ((p : Int) != (s.size : Int) - 1) = false := nef (by omega)
        have hp1 : p < s.size := by omega
        have hc125 : ((s[p].toNat : Int) != 125) = false := by
          have h8 := HG1.out
          rw [show s.size - 1 = p by omega, ← at8_eq hp1] at h8
          rw [h8]; rfl
        clear hend
        go_wp2_with fail
        refine HRC.out.mono ?_
        rintro e w4 ⟨rfl, hb4⟩
        go_wp2
        go_ret2
        exact .inr ⟨rfl, HN.out, hbel.trans (hb4.mono hsz)⟩
      · have he1 : ((p : Int) != (s.size : Int) - 1) = true := net (by omega)
        clear hend
        go_wp2
        go_ret2
        exact .inr ⟨rfl, HN.out, hbel⟩
    · have i5 : (out.length : Int) < 5 := by omega
      have hne := own_new hown
      have hown1 := hown.alloc (.cells #[.string ⟨#[]⟩, .string ⟨#[]⟩] 37)
      have hx0 := Blk.new wr 37 #[.string ⟨#[]⟩, .string ⟨#[]⟩]
      have hb0 : Below w.heap.size w (wr.alloc (.cells #[.string ⟨#[]⟩, .string ⟨#[]⟩] 37)) := hbel.alloc hsz _
      go_wp2
      generalize wr.alloc (.cells #[.string ⟨#[]⟩, .string ⟨#[]⟩] 37) = w1 at *
      generalize wr.heap.size = g at *
      have hgw : w.heap.size ≤ g := hsz
      clear hown hbel
      have HqT : Hid (q ≤ T.length) := Lib.hid HSt.out.le
      have HD : Hid (s.data.toList.drop p = T.drop q ++ [125]) := Lib.hid (by rw [Hpq.out]; exact drop_S HS.out HqT.out)
      go_loopw [5] (fun a wx => ∃ b : Nat, a = .int .i64 (b : Int) ∧ p ≤ b ∧ b + 1 ≤ s.size ∧ Hid (∀ x ∈ (s.data.toList.drop p).take (b - p), letterB x = true) ∧ Blk wx g 37 #[.string (s.extract p b), .string ⟨#[]⟩] ∧ Only g w1 wx) (fun a _ => s.size - (intOf a).toNat)
      case atStart => exact ⟨p, rfl, Nat.le_refl _, hp, Lib.hid (by rw [Nat.sub_self]; simp), by rw [ext_none]; exact hx0, Only.refl _ _⟩
      case round =>
        obtain ⟨b, rfl, hpb, hbs, Hlet, hx, honly⟩ := hrel
        have hbl : b < s.size := by omega
        have Hdr := Lib.hid (drop8 hbl)
        have Hc := Lib.hid (at8_eq hbl)
        have HLC := Lib.hid (fun W => letter_calls s[b] W)
        have Hsplit : Hid ((T.drop q ++ [125]).drop (b - p) = s[b] :: s.data.toList.drop (b + 1)) := Lib.hid (by rw [← HD.out, List.drop_drop, show p + (b - p) = b by omega, Hdr.out, Hc.out])
        cases hlt : letterB s[b]
        · rw [hlt] at HLC
          have Hall : Hid (∀ x ∈ (T.drop q ++ [125]).take (b - p), letterB x = true) := Lib.hid (by rw [← HD.out]; exact Hlet.out)
          have hbx : Below w.heap.size w wr := hb0.trans (honly.below hgw hb0.size)
          have HF := Lib.hid hlt
          clear hlt
          by_cases h3 : s.size < b + 3
          · have HN := Lib.hid (Hno.out (HSt.out.scan_short Hall.out Hsplit.out HF.out (by rw [List.length_drop, HL.out]; omega)))
            have d3 : decide ((s.size : Int) - (b : Int) < 3) = true := dct (by omega)
            have d4 : (s.size : Int) - (b : Int) < 3 := by omega
            go_wp2_with fail
            refine (HLC.out _).mono ?_
            rintro e w2 ⟨rfl, rfl⟩
            go_wp2
            go_ret2
            exact .inr ⟨rfl, HN.out, hbx⟩
          have d3 : decide ((s.size : Int) - (b : Int) < 3) = false := dcf (by omega)
          have d4 : (3 : Int) ≤ (s.size : Int) - (b : Int) := by omega
          have e1 : ((b : Int) + 1).toNat = b + 1 := by omega
          have jb1 : b + 1 < s.size := by omega
          have ib1 : (b : Int) + 1 < (s.size : Int) := by omega
          by_cases h61 : ((s[b].toNat : Int) == 61) = true
          case neg =>
            have h61' : ((s[b].toNat : Int) != 61) = true := by simpa using h61
            have HN := Lib.hid (Hno.out (HSt.out.scan_61 Hall.out Hsplit.out HF.out (fun e => h61 (by rw [e]; rfl))))
            clear h61
            go_wp2_with fail
            refine (HLC.out _).mono ?_
            rintro e w2 ⟨rfl, rfl⟩
            go_wp2
            go_ret2
            exact .inr ⟨rfl, HN.out, hbx⟩
          have h61' : ((s[b].toNat : Int) != 61) = false := by simpa using h61
          have hb61 : s[b] = 61 := by
            rw [beq_iff_eq] at h61
            exact UInt8.toNat_inj.1 (by show s[b].toNat = 61; omega)
          have Hsp2 : Hid ((T.drop q ++ [125]).drop (b - p) = 61 :: s[b + 1] :: s.data.toList.drop (b + 2)) := Lib.hid (by rw [Hsplit.out, hb61, drop8 jb1, at8_eq jb1])
          clear h61 hb61
          by_cases h34 : ((s[b + 1].toNat : Int) == 34) = true
          case neg =>
            have h34' : ((s[b + 1].toNat : Int) != 34) = true := by simpa using h34
            have HN := Lib.hid (Hno.out (HSt.out.scan_34 Hall.out Hsp2.out (fun e => h34 (by rw [e]; rfl))))
            clear h34
            go_wp2_with fail
            refine (HLC.out _).mono ?_
            rintro e w2 ⟨rfl, rfl⟩
            go_wp2
            go_ret2
            exact .inr ⟨rfl, HN.out, hbx⟩
          have h34' : ((s[b + 1].toNat : Int) != 34) = false := by simpa using h34
          have hb34 : s[b + 1] = 34 := by
            rw [beq_iff_eq] at h34
            exact UInt8.toNat_inj.1 (by show s[b + 1].toNat = 34; omega)
          have Hsp3 : Hid ((T.drop q ++ [125]).drop (b - p) = 61 :: 34 :: s.data.toList.drop (b + 2)) := Lib.hid (by rw [Hsp2.out, hb34])
          clear h34 hb34 Hsp2
          go_wp2_with fail
          refine (HLC.out _).mono ?_
          rintro e w2 ⟨rfl, rfl⟩
          go_wp2
          go_loopw [5] (fun a wx => ∃ (p2 : Nat) (u : List UInt8), a = .int .i64 (p2 : Int) ∧ p2 ≤ s.size ∧ Hid (Upto s.data.toList (b + 2) u p2) ∧ Blk wx g 37 #[.string (s.extract p b), .string ⟨u.toArray⟩] ∧ Only g w1 wx) (fun a _ => s.size - (intOf a).toNat)
          case atStart => exact ⟨b + 2, [], by go_num, by omega, Lib.hid (Upto.start _ _), hx, honly⟩
          case round =>
            obtain ⟨p2, u, rfl, hp2, HU, hx2, honly2⟩ := hrel
            clear hx honly hbx
            have hbx : Below w.heap.size w wr := hb0.trans (honly2.below hgw hb0.size)
            have s2 := hbx.size
            have hul : u.length ≤ s.size := by have hug := HU.out.2; have hvg := valT_ge u; omega
            by_cases hlt2 : p2 < s.size
            · have Hdr2 := Lib.hid (drop8 hlt2)
              have Hc2 := Lib.hid (at8_eq hlt2)
              by_cases hq34 : ((s[p2].toNat : Int) == 34) = true
              · have hq34' : ((s[p2].toNat : Int) != 34) = false := by simpa using hq34
                have hd34 : s.data.toList.drop p2 = 34 :: s.data.toList.drop (p2 + 1) := by
                  rw [Hdr2.out, ← Hc2.out]
                  congr 1
                  rw [beq_iff_eq] at hq34
                  exact UInt8.toNat_inj.1 (by show s[p2].toNat = 34; omega)
                have hlast : p2 + 1 ≠ s.size := fun e => by
                  have h8 := HG1.out
                  rw [← e, show p2 + 1 - 1 = p2 by omega, ← Hc2.out] at h8
                  rw [h8] at hq34
                  exact absurd hq34 (by decide)
                have hl2 : p2 + 1 < s.size := by omega
                have hpq : p = 1 + q := Hpq.out
                have hTl : T.length = s.size - 2 := HTl.out
                have hug := HU.out.2
                have HSt2 : Hid (St T (out ++ [(s.extract p b, ⟨u.toArray⟩)]) p2) := Lib.hid (by
                  refine HSt.out.scan_label Hall.out (j := b - p) (n := s.extract p b) (v := ⟨u.toArray⟩) (q2 := p2) ?_ (by omega) ?_ ?_ (by omega) ?_
                  · rw [Hsp3.out, ← drop_S HS.out (by omega), show 1 + (q + (b - p) + 2) = b + 2 by omega]
                  · rw [ext_list, HD.out]
                  · show p2 = q + (b - p) + 2 + (valT u).length + 1
                    omega
                  · rw [← drop_S HS.out (by omega), show 1 + (q + (b - p) + 2) = b + 2 by omega, ← drop_S HS.out (by omega), show 1 + p2 = p2 + 1 by omega]
                    exact HU.out.done hd34)
                have hb2 : b + 2 ≤ p2 := by omega
                clear hug hpq hTl hd34 hq34 hlast
                have hown2 := own_apart hown1 honly2 hne
                have y0 := hx2.cell 0
                have y1 := hx2.cell 1
                simp only [List.getElem?_toArray, List.getElem?_cons_zero, List.getElem?_cons_succ] at y0 y1
                have hns : (s.extract p b).size ≤ 600 := by rw [ByteArray.size_extract]; omega
                have hvs : (⟨u.toArray⟩ : ByteArray).size ≤ 600 := by rw [mk_size]; omega
                generalize (⟨u.toArray⟩ : ByteArray) = vb at *
                have Hfit2 : Hid (Fit (out ++ [(s.extract p b, vb)])) := Lib.hid (fun y hy => by
                  rcases List.mem_append.1 hy with hy | hy
                  · exact HFit.out y hy
                  · simp at hy
                    subst hy
                    exact ⟨by simp only; omega, by simp only; omega⟩)
                have hrd : Reads (wr.alloc (.cells #[.string (s.extract p b), .string vb] 37)) (wr.heap.size + 1) 2 (some ⟨wr.heap.size, 0, none⟩) 1 (labCells [(s.extract p b, vb)]) := Reads.made (n := 1) (size := 2) wr #[.string (s.extract p b), .string vb] 37 rfl
                clear hns hvs
                go_wp2_with (at_builtin; go_must (refine wpList_append_sl _ rfl (.tmp 102) (.tmp 104) _ rfl w.heap.size 37 _ 2 32 Try.underlying22 Try.infoLab rfl (by omega) _ _ _ rfl (hown2.alloc _) (wr.heap.size + 1) _ 1 1 (labCells [(s.extract p b, vb)]) rfl hrd (labCells_one _) (by unfold maxLen; omega) (by omega) (by simp; omega) ?_))
                intro A2' c2' w3 hc1 hc2 hrd2 hbel2 hown3' _ _
                have hown3 : w3.ownsRow w.heap.size 37 2 (.slice A2' (out ++ [(s.extract p b, vb)]).length c2') (out ++ [(s.extract p b, vb)]).length (labCells (out ++ [(s.extract p b, vb)])) := by rw [labCells_app, List.length_append]; exact hown3'
                have hbe : Below w.heap.size w w3 := (hbx.alloc (by omega) _).trans hbel2
                have s3 := hbe.size
                clear hown3' hown2 hown1 hrd2 hrd y0 y1
                have e1 : ((p2 : Int) + 1).toNat = p2 + 1 := by omega
                have i1 : (p2 : Int) + 1 < (s.size : Int) := by omega
                have Hp1 : Hid (T.drop p2 ++ [125] = s[p2 + 1] :: s.data.toList.drop (p2 + 2)) := Lib.hid (by
                  rw [← drop_S HS.out HSt2.out.le, show 1 + p2 = p2 + 1 by omega, drop8 hl2, at8_eq hl2])
                by_cases h44 : ((s[p2 + 1].toNat : Int) == 44) = true
                · have h44' : ((s[p2 + 1].toNat : Int) != 44) = false := by simpa using h44
                  have hc44 : s[p2 + 1] = 44 := by
                    rw [beq_iff_eq] at h44
                    exact UInt8.toNat_inj.1 (by show s[p2 + 1].toNat = 44; omega)
                  have hlt3 : p2 < T.length := by
                    rcases Nat.lt_or_ge p2 T.length with h | h
                    · exact h
                    · exfalso
                      have h9 := Hp1.out
                      rw [List.drop_eq_nil_of_le h, hc44] at h9
                      simp at h9
                  have HSt3 := Lib.hid (HSt2.out.comma (by simp) (X := T.drop (p2 + 1)) (by
                    have h9 := Hp1.out
                    rw [List.drop_eq_getElem_cons hlt3, hc44] at h9
                    simp only [List.cons_append, List.cons.injEq] at h9
                    rw [List.drop_eq_getElem_cons hlt3, h9.1]))
                  have hsz3 : p2 + 3 ≤ s.size := by have := HTl.out; omega
                  clear h44 hc44 hlt3
                  go_wp2
                  go_roundw
                  case rel => exact ⟨p2 + 2, p2 + 1, out ++ [(s.extract p b, vb)], A2', c2', by simp, by go_num, Lib.hid (by omega), by omega, by simp; omega, HSt3, Hfit2, hown3, hbe⟩
                  case measure => simp [intOf]; omega
                · have h44' : ((s[p2 + 1].toNat : Int) != 44) = true := by simpa using h44
                  have hne44 : s[p2 + 1] ≠ 44 := fun e => h44 (by rw [e]; rfl)
                  by_cases hend : p2 + 2 = s.size
                  · have hT2 : p2 = T.length := by have := HTl.out; omega
                    have hSf : St T (out ++ [(s.extract p b, vb)]) T.length := by rw [← hT2]; exact HSt2.out
                    have he1 : ((p2 : Int) + 1 != (s.size : Int) - 1) = false := nef (by omega)
                    have hc125 : ((s[p2 + 1].toNat : Int) != 125) = false := by
                      have h8 := HG1.out
                      rw [show s.size - 1 = p2 + 1 by omega, ← at8_eq hl2] at h8
                      rw [h8]; rfl
                    have hlab : Labs w3 w3.heap.size A2' (out ++ [(s.extract p b, vb)]) := Reads.of_own hown3
                    have hRC := rightR_calls w3 (c := c2') hlab Hfit2.out (by simp; omega)
                    have hlen : (out ++ [(s.extract p b, vb)]).length = out.length + 1 := by simp
                    clear h44 hne44
                    cases hr : rightB (out ++ [(s.extract p b, vb)])
                    · have HN := Lib.hid (Hno.out (hSf.finno hr))
                      rw [hr, hlen] at hRC
                      have HRC := Lib.hid hRC
                      clear hRC hr hT2 hend hlen
                      go_wp2_with fail
                      refine HRC.out.mono ?_
                      rintro e w4 ⟨rfl, hb4⟩
                      go_wp2
                      go_ret2
                      exact .inr ⟨rfl, HN.out, hbe.trans (hb4.mono s3)⟩
                    · have HP := Lib.hid (par_of HS.out hr hSf.fin)
                      rw [hr, hlen] at hRC
                      have HRC := Lib.hid hRC
                      have HLen := Lib.hid hlen
                      clear hRC hr hT2 hend hlen
                      go_wp2_with fail
                      refine HRC.out.mono ?_
                      rintro e w4 ⟨rfl, hb4⟩
                      go_wp2
                      go_ret2
                      exact .inl ⟨out ++ [(s.extract p b, vb)], A2', c2', by rw [HLen.out]; rfl, HP.out, (hlab.below hb4).more hb4.size, hbe.trans (hb4.mono s3)⟩
                  · have HN := Lib.hid (Hno.out (HSt2.out.brk (by simp) Hp1.out hne44 (by have := HTl.out; omega)))
                    have he1 : ((p2 : Int) + 1 != (s.size : Int) - 1) = true := net (by omega)
                    clear h44 hne44
                    go_wp2
                    go_ret2
                    exact .inr ⟨rfl, HN.out, hbe⟩
              · have hq34' : ((s[p2].toNat : Int) != 34) = true := by simpa using hq34
                have Hn34 : Hid (∀ r, s.data.toList.drop p2 ≠ 34 :: r) := Lib.hid (fun r hr => by
                  rw [Hdr2.out, ← Hc2.out] at hr
                  simp only [List.cons.injEq] at hr
                  rw [hr.1] at hq34
                  exact hq34 rfl)
                have HRD := Lib.hid (fun W => read_calls s p2 W hlt2 (by omega))
                have y1 := hx2.cell 1
                simp only [List.getElem?_toArray, List.getElem?_cons_zero, List.getElem?_cons_succ] at y1
                clear hq34
                go_wp2_with fail
                refine (HRD.out _).mono ?_
                rintro e w3 ⟨hret, hb3⟩
                have s3 := hb3.size
                rcases hret with ⟨ch, rfl, hch⟩ | ⟨rfl, hno⟩
                · have hlc : (escB ch).length = 1 ∨ (escB ch).length = 3 := by rw [escB_len13]; split <;> simp
                  have hrem : p2 + (escB ch).length ≤ s.size := by
                    have := congrArg List.length hch
                    rw [List.length_append, List.length_drop, List.length_drop, HL.out] at this
                    omega
                  have Hup := Lib.hid (HU.out.next rfl hch)
                  have hz : (((escB ch).length : Int) == 0) = false := eqf (by omega)
                  have hm1 : 1 ≤ (escB ch).length := by omega
                  generalize (escB ch).length = m at *
                  have x3 := hx2.below hb3 hx2.lt
                  have y1' := x3.cell 1
                  have f1' := x3.frozen 1
                  simp only [List.getElem?_toArray, List.getElem?_cons_zero, List.getElem?_cons_succ] at y1'
                  have hcv := conv_new w3 [ch] #[.int .u8 (ch.toNat : Int)] 1 1 rfl rfl
                  have happ : (⟨u.toArray⟩ : ByteArray) ++ (⟨[ch].toArray⟩ : ByteArray) = ⟨(u ++ [ch]).toArray⟩ := app_str _ _
                  have hadd : ∀ W, (Op.stringOp .add (⟨u.toArray⟩ : ByteArray) (⟨[ch].toArray⟩ : ByteArray)).run Try.prog W = .ok (.string ⟨(u ++ [ch]).toArray⟩) W := fun W => by
                    rw [run_string_add_sum W _ _ (by rw [mk_size, mk_size]; simp; omega), happ]
                  have x3a := x3.alloc (.cells #[.int .u8 (ch.toNat : Int)] 5)
                  have hg3 := x3.lt
                  have y1a := x3a.cell 1
                  have f1a := x3a.frozen 1
                  simp only [List.getElem?_toArray, List.getElem?_cons_zero, List.getElem?_cons_succ] at y1a
                  have Hset : Hid (Blk _ g 37 #[.string (s.extract p b), .string ⟨(u ++ [ch]).toArray⟩]) := Lib.hid ((x3.set_ 1 (.string ⟨(u ++ [ch]).toArray⟩)).alloc (.cells #[.int .u8 (ch.toNat : Int)] 5))
                  have ho3 : Only g w1 w3 := honly2.trans (Only.of_below hb3)
                  clear hch happ y1 hlc
                  generalize (⟨u.toArray⟩ : ByteArray) = bu at *
                  generalize (⟨[ch].toArray⟩ : ByteArray) = bc at *
                  go_wp2
                  go_roundw
                  case rel => exact ⟨p2 + m, u ++ [ch], by go_num, hrem, Hup, Hset.out, (ho3.setCell (.inl rfl) _).alloc _⟩
                  case measure => simp [intOf]; omega
                · have HN := Lib.hid (Hno.out (HSt.out.scan_val Hall.out Hsp3.out (HU.out.none hno Hn34.out)))
                  clear hno
                  go_wp2
                  go_ret2
                  exact .inr ⟨rfl, HN.out, hbx.trans (hb3.mono s2)⟩
            · obtain rfl : p2 = s.size := by omega
              have HN := Lib.hid (Hno.out (HSt.out.scan_val Hall.out Hsp3.out (by
                have e : s.data.toList.drop s.size = [] := List.drop_eq_nil_of_le (by rw [HL.out]; omega)
                exact HU.out.none (by rw [e]; exact noRd_nil) (fun r h => by rw [e] at h; cases h))))
              have hown2 := own_apart hown1 honly2 hne
              have y0 := hx2.cell 0
              have y1 := hx2.cell 1
              simp only [List.getElem?_toArray, List.getElem?_cons_zero, List.getElem?_cons_succ] at y0 y1
              have hns : (s.extract p b).size ≤ 600 := by rw [ByteArray.size_extract]; omega
              have hvs : (⟨u.toArray⟩ : ByteArray).size ≤ 600 := by rw [mk_size]; omega
              generalize (⟨u.toArray⟩ : ByteArray) = vb at *
              have Hfit2 : Hid (Fit (out ++ [(s.extract p b, vb)])) := Lib.hid (fun y hy => by
                rcases List.mem_append.1 hy with hy | hy
                · exact HFit.out y hy
                · simp at hy
                  subst hy
                  exact ⟨by simp only; omega, by simp only; omega⟩)
              have hrd : Reads (wr.alloc (.cells #[.string (s.extract p b), .string vb] 37)) (wr.heap.size + 1) 2 (some ⟨wr.heap.size, 0, none⟩) 1 (labCells [(s.extract p b, vb)]) := Reads.made (n := 1) (size := 2) wr #[.string (s.extract p b), .string vb] 37 rfl
              clear hns hvs
              go_wp2_with (at_builtin; go_must (refine wpList_append_sl _ rfl (.tmp 102) (.tmp 104) _ rfl w.heap.size 37 _ 2 32 Try.underlying22 Try.infoLab rfl (by omega) _ _ _ rfl (hown2.alloc _) (wr.heap.size + 1) _ 1 1 (labCells [(s.extract p b, vb)]) rfl hrd (labCells_one _) (by unfold maxLen; omega) (by omega) (by simp; omega) ?_))
              intro A2' c2' w3 hc1 hc2 hrd2 hbel2 hown3' _ _
              have hown3 : w3.ownsRow w.heap.size 37 2 (.slice A2' (out ++ [(s.extract p b, vb)]).length c2') (out ++ [(s.extract p b, vb)]).length (labCells (out ++ [(s.extract p b, vb)])) := by rw [labCells_app, List.length_append]; exact hown3'
              have hbe : Below w.heap.size w w3 := (hbx.alloc (by omega) _).trans hbel2
              have s3 := hbe.size
              clear hown3' hown2 hown1 hrd2 hrd y0 y1
              go_wp2
              go_ret2
              exact .inr ⟨rfl, HN.out, hbe⟩
        · rw [hlt] at HLC
          have hne1 : b + 1 ≠ s.size := fun e => by
            have h8 := HG1.out
            rw [← e, show b + 1 - 1 = b by omega, ← Hc.out] at h8
            rw [h8] at hlt
            exact absurd hlt (by decide)
          have Hlet2 : Hid (∀ x ∈ (s.data.toList.drop p).take (b + 1 - p), letterB x = true) := Lib.hid (fun x hx => by
            rw [show b + 1 - p = (b - p) + 1 by omega, List.take_add_one] at hx
            rcases List.mem_append.1 hx with hx | hx
            · exact Hlet.out x hx
            · rw [List.getElem?_drop, show p + (b - p) = b by omega, at8_get hbl] at hx
              simp at hx
              rw [hx, ← Hc.out]; exact hlt)
          have Hnx := Lib.hid (ext_next (s := s) hpb hbl)
          clear hlt
          have y0 := hx.cell 0
          have f0 := hx.frozen 0
          simp only [List.getElem?_toArray, List.getElem?_cons_zero] at y0
          have e1 : ((b : Int) + 1).toNat = b + 1 := by omega
          have i1 : (b : Int) + 1 ≤ (s.size : Int) := by omega
          have i2 : (b : Int) ≤ (b : Int) + 1 := by omega
          have i3 : (0 : Int) ≤ (b : Int) := by omega
          have k1 : IntKind.i64.wrap ((b : Int) + 1) = (b : Int) + 1 := IntWalk.i64_in _ (by omega)
          have z1 : (s.extract p b).size ≤ 600 := by rw [ByteArray.size_extract]; omega
          have z2 : (s.extract b (b + 1)).size ≤ 600 := by rw [ByteArray.size_extract]; omega
          have hadd : ∀ W, (Op.stringOp .add (s.extract p b) (s.extract b (b + 1))).run Try.prog W = .ok (.string (s.extract p (b + 1))) W := fun W => by rw [run_string_add_sum W _ _ (by omega), Hnx.out]
          have Hset := Lib.hid (hx.set_ 0 (.string (s.extract p (b + 1))))
          go_wp2_with fail
          refine (HLC.out _).mono ?_
          rintro e w2 ⟨rfl, rfl⟩
          go_wp2_with fail
          go_still_tail 8, (by kernel_rfl)
          go_wp2
          go_roundw
          case rel => exact ⟨b + 1, by go_num, by omega, by omega, Hlet2, Hset.out, (honly.drewN _).setCell (.inl rfl) _⟩
          case measure => simp [intOf]; omega
end Go.Proofs.Ytbnlfljlomhngaa
