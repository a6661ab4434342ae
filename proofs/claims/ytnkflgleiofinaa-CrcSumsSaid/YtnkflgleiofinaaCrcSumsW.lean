/- The walk of CrcSums: any parts' checksum is the document's of all of them in a row; a digest tells the same. -/
import Derived.Test.YtnkflgleiofinaaCrcD
import Derived.Test.YtnkflgleiofinaaParts
namespace Go.Proofs.Ytnkflgleiofinaa.lawCrcSums
open Go.RowKit
open Go.ChangeShapes Go.WideShapes

theorem crcOf_le (l : List UInt8) : crcOf l ≤ 4294967295 := by unfold crcOf; omega
theorem crcOf_nil : crcOf [] = 0 := by unfold crcOf; rw [crcRun_nil]
theorem wrote_app (F x : List UInt8) : wroteN (crcOf F) x = crcOf (F ++ x) := by
  have h := crcRun_lt F (c := 4294967295) (by decide)
  have e : 4294967295 - crcOf F = crcRun 4294967295 F := by unfold crcOf; omega
  unfold wroteN
  rw [e]
  unfold crcOf
  rw [crcRun_app]
theorem flat_next {L : List (List UInt8)} {k : Nat} {F : List UInt8} (hk : k < L.length) (h : F = (L.take k).flatten) : F ++ L[k] = (L.take (k + 1)).flatten := by
  rw [h, List.take_succ_eq_append_getElem hk, List.flatten_append]; simp
theorem flat_all {L : List (List UInt8)} {F : List UInt8} (h : F = (L.take L.length).flatten) : L.flatten = F := by rw [h, List.take_length]
theorem own_bytesN {w : World} {base n : Nat} {e : TypeId} {A : Option Addr} {c : Nat} {l : List UInt8} (h : w.ownsRow base e 1 (.slice A n c) n (l.map byteV)) (hn : l.length = n) : Bytes w w.heap.size A n l := by
  subst hn; exact own_bytes h

set_option maxRecDepth 100000 in
set_option maxHeartbeats 2000000 in
theorem body (w : World) {B c : Nat} {A : Option Addr} {L : List (List UInt8)} (h : Sl bytesRep w B A L) (hB : B ≤ w.heap.size) :
    Calls Try.prog 3 #[.slice A L.length c] w fun e w' => e = .returned (.bool true) ∧ Below w.heap.size w w' := by
  by_cases hn : 100 < L.length
  · go_enter Try.func3, Try.ntmps3
    go_wp2_with fail
    refine (lives_calls w).mono ?_
    rintro e w1 ⟨rfl, hbel1⟩
    go_wp2_with fail
    refine (lives_calls w1).mono ?_
    rintro e w2 ⟨rfl, hbel2⟩
    go_wp2
    go_ret
    exact ⟨rfl, hbel1.trans (hbel2.mono hbel1.size)⟩
  · go_enter Try.func3, Try.ntmps3
    go_wp2_with fail
    refine (lives_calls w).mono ?_
    rintro e w1 ⟨rfl, hbel1⟩
    have h1 := h.below (hbel1.mono hB)
    have s1 := hbel1.size
    go_wp2_with fail
    go_loopw [3, 18] (fun v i wr => ∃ (k : Nat) (F : List UInt8) (A' : Option Addr) (c' : Nat), i = .int .i64 (k : Int) ∧ v = .slice A' F.length c' ∧ k ≤ L.length ∧ F.length ≤ 8192 ∧ Hid (F = (L.take k).flatten) ∧ Blk wr w1.heap.size 27 #[.int .u32 ((crcOf F : Nat) : Int)] ∧ wr.ownsRow (w1.heap.size + 1) 5 1 (.slice A' F.length c') F.length (F.map byteV) ∧ Below w1.heap.size w1 wr) (fun _ i _ => L.length - (intOf i).toNat)
    case atStart =>
      refine ⟨0, [], none, 0, rfl, rfl, by omega, by simp, Lib.hid rfl, ?_, World.ownsRow_nil _ _ _ _, (Below.refl _ _).alloc (Nat.le_refl _) _⟩
      rw [crcOf_nil]; exact Blk.new w1 _ _
    case round =>
      obtain ⟨k, F, A', c', rfl, rfl, hk, hF, HF, hblk, hown, hbel⟩ := hrel
      have hg := hblk.lt
      by_cases hlt : k < L.length
      · have hs := h1.below (hbel.mono (by omega))
        obtain ⟨b, off, Ak, ck, rfl, hbB, hcell, g1, g2, g3⟩ := bytes_at hs hlt
        have hfin : Below w.heap.size w wr := hbel1.trans (hbel.mono (by omega))
        by_cases hb1 : 4096 < F.length
        · go_wp2
          go_ret
          exact ⟨rfl, hfin⟩
        · by_cases hb2 : 4096 < L[k].length
          · go_wp2
            go_ret
            exact ⟨rfl, hfin⟩
          · have Hn := Lib.hid (flat_next hlt HF.out)
            have hlen : (F ++ L[k]).length = F.length + L[k].length := List.length_append
            have Hlen := Lib.hid hlen
            clear hlen
            go_wp2_with (at_builtin; go_must (refine wpList_append_sl _ rfl (.tmp 30) (.tmp 31) _ rfl (w1.heap.size + 1) 5 _ 1 1 Try.underlying24 Try.infoU8 rfl (by omega) _ _ _ rfl hown B Ak L[k].length ck (L[k].map byteV) rfl g3.2 (byteV_one _) (by unfold maxLen; omega) (by omega) (by omega) ?_))
            intro A2 c2 w2 k1 k2 _ hbel2 hown2 _ _
            rw [← List.map_append] at hown2
            have hblk2 := hblk.below hbel2 (by omega)
            have s2 := hbel2.size
            have g3' := g3.below (hbel2.mono (by omega))
            have hw := wrote_app F L[k]
            go_wp2_with fail
            refine (write_calls w2 hblk2 g3' (crcOf_le F) (by omega)).mono ?_
            rintro e w3 ⟨rfl, hblk3, ho⟩
            have hown3 := own_only hown2 ho (by omega)
            rw [hw] at hblk3
            have hby3 := own_bytesN hown3 Hlen.out
            have s3 : w2.heap.size ≤ w3.heap.size := ho.size
            have hbel3 : Below w1.heap.size w1 w3 := (hbel.trans (hbel2.mono (by omega))).trans (ho.below (Nat.le_refl _) (by omega))
            clear hw hown hown2 hblk hblk2
            go_wp2_with fail
            refine (dsum_calls w3 hblk3).mono ?_
            rintro e w' ⟨rfl, rfl⟩
            go_wp2_with fail
            refine (sumR_calls w3 hby3 (by omega)).mono ?_
            rintro e w' ⟨rfl, rfl⟩
            have q : (((crcOf (F ++ L[k]) : Nat) : Int) != ((crcOf (F ++ L[k]) : Nat) : Int)) = false := nef rfl
            go_wp2
            go_roundw
            case rel => exact ⟨k + 1, F ++ L[k], A2, c2, by go_num, by rw [Hlen.out], by omega, by rw [Hlen.out]; omega, Hn, hblk3, by rw [Hlen.out]; exact hown3, hbel3⟩
            case measure => simp [intOf]; omega
      · have hk2 : k = L.length := by omega
        subst hk2
        have Hf := Lib.hid (flat_all HF.out)
        have hs := h1.below (hbel.mono (by omega))
        go_wp2_with fail
        refine (writeNil_calls wr _).mono ?_
        rintro e w' ⟨rfl, rfl⟩
        have hsum := sum_calls (c := c) wr hs (by omega) (by omega)
        rw [Hf.out] at hsum
        have Hsum := Lib.hid hsum
        clear hsum
        go_wp2_with fail
        refine Hsum.out.mono ?_
        rintro e w2 ⟨rfl, hbel2⟩
        have hown2 := own_below hown hbel2
        have hblk2 := hblk.below hbel2 hg
        have hby2 := own_bytes hown2
        have s2 := hbel2.size
        have hbelC : Below w1.heap.size w1 w2 := hbel.trans (hbel2.mono (by omega))
        obtain ⟨_, _, e1, hcc, hmm, _⟩ := own_slice hown2
        injection e1 with e1 e2 e3
        subst e1 e3
        clear hown hown2 hblk
        go_wp2_with fail
        refine (sumR_calls w2 hby2 (by omega)).mono ?_
        rintro e w' ⟨rfl, rfl⟩
        have q : (((crcOf F : Nat) : Int) == ((crcOf F : Nat) : Int)) = true := eqt rfl
        go_wp2_with fail
        refine (dsum_calls w2 hblk2).mono ?_
        rintro e w' ⟨rfl, rfl⟩
        go_wp2_with fail
        refine (sum1_calls w2 hby2 (Nat.le_refl _) hcc (by omega)).mono ?_
        rintro e w3 ⟨rfl, hbel3⟩
        go_wp2_with fail
        refine (dsumNil_calls w3).mono ?_
        rintro e w' ⟨rfl, rfl⟩
        go_wp2
        go_ret
        exact ⟨rfl, hbel1.trans ((hbelC.mono s1).trans (hbel3.mono (by omega)))⟩

theorem walk {H : Type} {enc : TypeId × Value → H} {W : World} {base : Nat} {v0 : Value} {d0 : DataW H} {p0 : List MemPlace} (g0 : Arg enc Try.prog W base 22 v0 d0 p0) :
    Calls Try.prog 3 #[v0] W fun e w' => e = .returned (.bool true) ∧ Below W.heap.size W w' := by
  obtain ⟨A, c, L, rfl, hb⟩ := arg_parts g0
  exact body W hb (Nat.le_refl _)
end Go.Proofs.Ytnkflgleiofinaa.lawCrcSums
