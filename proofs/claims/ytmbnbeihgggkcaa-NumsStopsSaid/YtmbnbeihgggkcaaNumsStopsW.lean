/- The walk of NumsStops: behind its first error a cursor reads nothing more, and stays where it is. -/
import Derived.Test.YtmbnbeihgggkcaaCurB
import Derived.Test.YtmbnbeihgggkcaaReadArg
namespace Go.Proofs.Ytmbnbeihgggkcaa.lawNumsStops
open Go.RowKit

theorem curU_mono (l : List UInt8) (k e : Nat) : k ≤ (curU l k e).2.1 := by
  unfold curU; split
  · exact Nat.le_refl _
  · exact Nat.le_add_right _ _
theorem curU_at0 {l : List UInt8} {k e : Nat} (h : e ≠ 0) : curU l k e = (0, k, e) := by unfold curU; rw [if_pos h]
theorem curNum_mono (l : List UInt8) (k e : Nat) (m : Int) : k ≤ (curNum l k e m).2.1 := by
  have := curU_mono l k e
  unfold curNum; split
  · exact Nat.le_refl _
  · split
    · exact this
    · split
      · exact Nat.le_refl _
      · exact this
theorem curBytes_mono (l : List UInt8) (k e : Nat) (m : Int) : k ≤ (curBytes l k e m).2.1 := by
  unfold curBytes; split
  · exact Nat.le_refl _
  · split
    · exact Nat.le_refl _
    · exact Nat.le_add_right _ _
theorem curText_mono (l : List UInt8) (k e : Nat) (m : Int) : k ≤ (curText l k e m).2.1 := by
  have := curU_mono l k e
  unfold curText; split
  · exact Nat.le_refl _
  · split
    · exact this
    · split
      · exact Nat.le_refl _
      · split
        · exact Nat.le_refl _
        · exact Nat.le_trans this (Nat.le_add_right _ _)
theorem curBytes_at0 {l : List UInt8} {k e : Nat} {n : Int} (h : e ≠ 0) : curBytes l k e n = ([], k, e) := by unfold curBytes; rw [if_pos h]
theorem curEnd_0 {l : List UInt8} {k e : Nat} (h : e ≠ 0) : curEnd l k e = e := by unfold curEnd; rw [if_pos h]
theorem curEnd_5 (l : List UInt8) (k e : Nat) (h0 : curEnd l k e ≠ 0) (h5 : curEnd l k e ≠ 5) : e ≠ 0 ∧ curEnd l k e = e := by
  by_cases h : e = 0
  · subst h
    unfold curEnd at h0 h5
    rw [if_neg (by omega)] at h0 h5
    split at h0 <;> split at h5 <;> simp_all
  · exact ⟨h, curEnd_0 h⟩

/-- What is so behind a read. -/
def Read (w : World) (g : Nat) (l : List UInt8) (k e : Nat) (U : Int) (S : List UInt8) (k' e' : Nat) : Prop :=
  Cur 59 w g g l k' e' ∧ k ≤ k' ∧ (e ≠ 0 → k' = k ∧ e' = e ∧ U = 0 ∧ S = [])

set_option maxRecDepth 100000 in
set_option maxHeartbeats 2000000 in
theorem body (w : World) {A : Option Addr} {c : Nat} {l : List UInt8} {A2 : Option Addr} {c2 : Nat} {q : List (Int × Int)} (hb : Bytes w w.heap.size A l.length l) (hc : l.length ≤ c) (hcm : c ≤ 140737488351232)
    (hq : Pairs w w.heap.size A2 q) (hqm : ∀ x ∈ q, x.2 ≤ 9223372036854775807) (hq63 : q.length ≤ 9223372036854775807) :
    Calls Try.prog 10 #[.slice A l.length c, .slice A2 q.length c2] w fun e w' => e = .returned (.bool true) ∧ Below w.heap.size w w' := by
  go_enter Try.func10, Try.ntmps10
  go_wp2_with fail
  refine (new_calls _ hb (Nat.le_refl _) (by omega)).mono ?_
  rintro e w1 ⟨g, rfl, hcur, hbel1, hg⟩
  by_cases hlong : 300 < q.length
  · go_wp2
    go_ret
    exact ⟨rfl, hbel1⟩
  · have hl15 : l.length ≤ 140737488351232 := by omega
    have hl16 : l.length ≤ 1000000000000000 := by omega
    go_wp2_with fail
    go_loopw [25] (fun i wr => ∃ j k e : Nat, j ≤ q.length ∧ i = .int .i64 (j : Int) ∧ Cur 59 wr g g l k e ∧ Below w.heap.size w wr) (fun i _ => q.length - (intOf i).toNat)
    case atStart => exact ⟨0, 0, 0, Nat.zero_le _, rfl, hcur, hbel1⟩
    case round =>
      obtain ⟨j, k, e, hj, rfl, hP, hbe⟩ := hrel
      clear hcur hbel1
      by_cases hltq : j < q.length
      · obtain ⟨b, off, rfl, hbB, hcell⟩ := (hq.below hbe) (by omega)
        obtain ⟨x0, x1⟩ := hcell j hltq
        have hxm := hqm _ (List.getElem_mem hltq)
        clear hcell
        generalize q[j] = x at *
        obtain ⟨kind, n⟩ := x
        simp only at x0 x1 hxm
        have sbe := hbe.size
        have hj0 : (j : Int) < (q.length : Int) := by omega
        have hax := (Below.refl wr.heap.size wr).alloc (Nat.le_refl _) (.cells #[.int .i64 kind, .int .i64 n] 51)
        have hP1 := hP.below hax
        have hgP := hP.lt
        have hbx := Blk.new wr 51 #[.int .i64 kind, .int .i64 n]
        have hbe1 := hbe.trans (hax.mono sbe)
        have hk : k ≤ l.length := by obtain ⟨_, _, _, _, _, _, h⟩ := hP; exact h
        clear hax
        go_wp2_with fail
        refine (end_calls _ hP1).mono ?_
        rintro en w' ⟨rfl, n1, rfl⟩
        go_wp2_with fail
        refine (at_calls _ (hP1.drewN n1)).mono ?_
        rintro en w' ⟨rfl, rfl⟩
        have hP2 := hP1.drewN n1
        have hbx2 := hbx.drewN n1
        have hbe2 := below_drewN_ hbe1 n1
        have x2 := hbx2.cell 0
        have x3 := hbx2.cell 1
        simp only [List.getElem?_toArray, List.getElem?_cons_zero, List.getElem?_cons_succ] at x2 x3
        obtain ⟨gx, hgx⟩ : ∃ gx, gx = wr.heap.size := ⟨_, rfl⟩
        rw [← hgx] at hbx2 x2 x3 hgP ⊢
        have hgx2 : w.heap.size ≤ gx := by omega
        clear hgx hbx hbe1 hP1 x0 x1 hP hbe sbe
        generalize (wr.alloc (.cells #[.int .i64 kind, .int .i64 n] 51)).drewN n1 = W2 at *
        go_upto_block 2 with fail
        go_cut [10, 11] (fun u t wx => ∃ (U : Int) (S : List UInt8) (k' e' : Nat), u = .int .u64 U ∧ t = .string ⟨S.toArray⟩ ∧ Read wx g l k e U S k' e' ∧ Below w.heap.size w wx)
        case first =>
          by_cases k0 : (kind == 0) = true
          · have hm := curU_mono l k e
            go_wp2_with fail
            refine (curU_calls _ hP2 hl16).mono ?_
            rintro en w3 ⟨rfl, h3, ho3⟩
            have hbe4 := hbe2.trans (ho3.below hg hbe2.size)
            have hR : Read w3 g l k e ((curU l k e).1 : Nat) [] (curU l k e).2.1 (curU l k e).2.2 := ⟨h3, hm, fun h => by rw [curU_at0 h]; exact ⟨rfl, rfl, rfl, rfl⟩⟩
            go_wp2
            go_meet
            case rel => exact ⟨_, [], _, _, rfl, rfl, hR, hbe4⟩
          · have k0 : (kind == 0) = false := by simpa using k0
            by_cases k1 : (kind == 1) = true
            · have hm := curU_mono l k e
              go_wp2_with fail
              refine (curI_calls _ hP2 hl16).mono ?_
              rintro en w3 ⟨rfl, h3, ho3⟩
              have hbe4 := hbe2.trans (ho3.below hg hbe2.size)
              have hR : Read w3 g l k e (IntKind.u64.wrap (zagI (curU l k e).1)) [] (curU l k e).2.1 (curU l k e).2.2 := ⟨h3, hm, fun h => by rw [curU_at0 h]; exact ⟨rfl, rfl, show IntKind.u64.wrap (zagI 0) = 0 from by decide, rfl⟩⟩
              go_wp2
              go_meet
              case rel => exact ⟨_, [], _, _, rfl, rfl, hR, hbe4⟩
            · have k1 : (kind == 1) = false := by simpa using k1
              by_cases k2 : (kind == 2) = true
              · have hm := curNum_mono l k e n
                go_wp2_with fail
                refine (curNum_calls _ hP2 hl16 n hxm).mono ?_
                rintro en w3 ⟨rfl, h3, ho3⟩
                have hbe4 := hbe2.trans (ho3.below hg hbe2.size)
                have hR : Read w3 g l k e (IntKind.u64.wrap ((curNum l k e n).1 : Nat)) [] (curNum l k e n).2.1 (curNum l k e n).2.2 := ⟨h3, hm, fun h => by rw [curNum_err h]; exact ⟨rfl, rfl, show IntKind.u64.wrap ((0 : Nat) : Int) = 0 from by decide, rfl⟩⟩
                go_wp2
                go_meet
                case rel => exact ⟨_, [], _, _, rfl, rfl, hR, hbe4⟩
              · have k2 : (kind == 2) = false := by simpa using k2
                by_cases k3 : (kind == 3) = true
                · have hm := curBytes_mono l k e n
                  go_wp2_with fail
                  refine (curBytes_calls _ hP2 hl15 n hxm).mono ?_
                  rintro en w3 ⟨A5, c5, rfl, hc5, hm5, hown5, h3, ho3⟩
                  have hby5 := own_bytes hown5
                  have kc := hby5.conv Try.prog c5 23 5 9 Try.underlying23 Try.underlying5 Try.underlying9
                  have hbe4 := hbe2.trans (ho3.below hg hbe2.size)
                  have hR : Read w3 g l k e 0 (curBytes l k e n).1 (curBytes l k e n).2.1 (curBytes l k e n).2.2 := ⟨h3, hm, fun h => by rw [curBytes_at0 h]; exact ⟨rfl, rfl, rfl, rfl⟩⟩
                  clear hown5 hby5
                  go_wp2
                  go_meet
                  case rel => exact ⟨_, _, _, _, rfl, rfl, hR, hbe4⟩
                · have k3 : (kind == 3) = false := by simpa using k3
                  have hm := curText_mono l k e n
                  go_wp2_with fail
                  refine (curText_calls _ hP2 hl15 n hxm).mono ?_
                  rintro en w3 ⟨rfl, h3, ho3⟩
                  have hbe4 := hbe2.trans (ho3.below hg hbe2.size)
                  have hR : Read w3 g l k e 0 (curText l k e n).1 (curText l k e n).2.1 (curText l k e n).2.2 := ⟨h3, hm, fun h => by rw [curText_err h]; exact ⟨rfl, rfl, rfl, rfl⟩⟩
                  go_wp2
                  go_meet
                  case rel => exact ⟨_, _, _, _, rfl, rfl, hR, hbe4⟩
        case rest =>
          obtain ⟨U, S, k', e', rfl, rfl, ⟨h3, hkk, hst⟩, hbe4⟩ := hcut
          have hk' : k' ≤ l.length := by obtain ⟨_, _, _, _, _, _, h⟩ := h3; exact h
          clear hP2 x2 x3 hbx2 hbe2
          have Hst := Lib.hid hst
          have H5 := Lib.hid (curEnd_5 l k e)
          clear hst
          go_wp2_with fail
          refine (at_calls _ h3).mono ?_
          rintro en w' ⟨rfl, rfl⟩
          go_wp2_with fail
          refine (at_calls _ h3).mono ?_
          rintro en w' ⟨rfl, rfl⟩
          generalize hE : curEnd l k e = E at *
          have HE := Lib.hid hE
          clear hE
          by_cases hE0 : E = 0
          · subst hE0
            go_wp2
            go_roundw
            case rel => exact ⟨j + 1, k', e', by omega, by go_num, h3, hbe4⟩
            case measure => simp [intOf]; omega
          · have q0 : ((E : Int) != 0) = true := net (by omega)
            by_cases hE5 : E = 5
            · subst hE5
              go_wp2
              go_roundw
              case rel => exact ⟨j + 1, k', e', by omega, by go_num, h3, hbe4⟩
              case measure => simp [intOf]; omega
            · have q5 : ((E : Int) != 5) = true := net (by omega)
              obtain ⟨he, hEe⟩ := H5.out hE0 hE5
              obtain ⟨rfl, rfl, rfl, rfl⟩ := Hst.out he
              subst hEe
              have hend := end_calls _ h3
              rw [curEnd_0 he] at hend
              have Hend := Lib.hid hend
              clear hend hE0 hE5
              go_wp2_with fail
              refine Hend.out.mono ?_
              rintro en w' ⟨rfl, n3, rfl⟩
              go_wp2_with fail
              refine (at_calls _ (h3.drewN n3)).mono ?_
              rintro en w' ⟨rfl, rfl⟩
              have h5 := h3.drewN n3
              have hbe5 := below_drewN_ hbe4 n3
              generalize wc.drewN n3 = W5 at *
              go_wp2
              go_roundw
              case rel => exact ⟨j + 1, k', _, by omega, by go_num, h5, hbe5⟩
              case measure => simp [intOf]; omega
      · have hj0 : ¬ (j : Int) < (q.length : Int) := by omega
        have sbe := hbe.size
        go_wp2_with fail
        have hb3 : Bytes (wr.alloc (.cells #[.int .u8 128] 5)) (wr.heap.size + 1) (some ⟨wr.heap.size, 0, none⟩) 1 [128] := .of (Reads.made (n := 1) (size := 1) wr _ _ rfl)
        have hbe6 := hbe.alloc sbe (.cells #[.int .u8 128] 5)
        refine (new_calls _ hb3 (by simp) (by omega)).mono ?_
        rintro en w5 ⟨g5, rfl, hc5, hbel5, hg5⟩
        have hbe7 := hbe6.trans (hbel5.mono hbe6.size)
        go_wp2_with fail
        refine (end_calls _ hc5).mono ?_
        rintro en w' ⟨rfl, n5, rfl⟩
        have hbe8 := below_drewN_ hbe7 n5
        have hend : curEnd [128] 0 0 = 5 := rfl
        rw [hend]
        go_wp2
        go_ret
        exact ⟨rfl, hbe8⟩

theorem walk {H : Type} {enc : TypeId × Value → H} {W : World} {base : Nat} {v0 v1 : Value} {d0 d1 : DataW H} {p0 p1 : List MemPlace} (g0 : Arg enc Try.prog W base 23 v0 d0 p0) (g1 : Arg enc Try.prog W base 46 v1 d1 p1) :
    Calls Try.prog 10 #[v0, v1] W fun e w' => e = .returned (.bool true) ∧ Below W.heap.size W w' := by
  obtain ⟨A, n, c, l, rfl, hn, hc, hb⟩ := g0.bytes Try.underlying23 Try.underlying5 (by kernel_rfl) (by kernel_rfl)
  obtain ⟨A2, c2, q, rfl, hq1, hq2, hq3, hq4⟩ := arg_reads g1
  have hl := hb.1
  subst hl
  exact body W hb hn hc hq3 hq4 (by unfold maxLen at hq2; omega)
end Go.Proofs.Ytmbnbeihgggkcaa.lawNumsStops
