/- Are lists few enough to be asked about? (chapter 16) -/
import Derived.Test.YtophfgijfmdbcaaProg
import Derived.Test.YtophfgijfmdbcaaMgG
namespace Go.Proofs.Ytophfgijfmdbcaa.Mg
open Go.RowKit Go.Proofs.Ytophfgijfmdbcaa Go.Proofs.Ytophfgijfmdbcaa.So

def RetFew (w : World) (L : List Lst) (e : Ending) (w' : World) : Prop := ∃ b, e = .returned (.bool b) ∧ (b = true → (lAll L).length ≤ 80 ∧ L.length ≤ 9) ∧ Below w.heap.size w w'

set_option maxRecDepth 100000 in
set_option maxHeartbeats 6400000 in
theorem few_calls (w : World) {B c : Nat} {A : Option Addr} {L : List Lst} (h : Lists w B A L) (hB : B ≤ w.heap.size) (hL : L.length ≤ 8796093022208) :
    Calls Try.prog 20 #[.slice A L.length c] w (RetFew w L) := by
  have H1 := Lib.hid h
  clear h
  go_enter Try.func20, Try.ntmps20
  go_wp2
  go_loopw [3, 8] (fun v i wr => ∃ k n : Nat, k ≤ L.length ∧ k ≤ 9 ∧ n ≤ 80 ∧ i = .int .i64 (k : Int) ∧ v = .int .i64 (n : Int) ∧ Hid (n = (lAll (L.take k)).length) ∧ Below w.heap.size w wr) (fun _ i _ => L.length - (intOf i).toNat)
  case atStart => exact ⟨0, 0, Nat.zero_le _, by omega, by omega, rfl, rfl, Lib.hid rfl, Below.refl _ _⟩
  case round =>
    obtain ⟨k, n, hk, hk9, hn, rfl, rfl, HNN, hbel⟩ := hrel
    have hsz := hbel.size
    by_cases hlt : k < L.length
    · have r1 := H1.out.below (hbel.mono hB)
      obtain ⟨bL, oL, eL, hbL, -⟩ := r1.at_ (by omega)
      have yL := r1.cell_ eL hlt
      have i0 : (0 : Int) ≤ (k : Int) := by omega
      have i9 : (k : Int) < (L.length : Int) := by omega
      have HTK := Lib.hid (lAll_take hlt)
      have hml := (H1.out.each _ (lt_mem hlt)).len
      clear r1
      subst eL
      generalize lt_ L k = x at *
      obtain ⟨m, hm⟩ : ∃ m, m = x.l.length := ⟨_, rfl⟩
      rw [← hm] at yL hml
      have HM := Lib.hid hm
      clear hm
      obtain ⟨t, ht, htm⟩ : ∃ t : Nat, min (m : Int) 100 = (t : Int) ∧ (t ≤ 80 → t = m) ∧ t ≤ 100 := ⟨min m 100, by omega, by omega, by omega⟩
      have HT := Lib.hid htm.1
      have ht1 := htm.2
      have wn : IntKind.i64.wrap ((n : Int) + (t : Int)) = (n : Int) + (t : Int) := IntWalk.i64_in _ (by omega)
      clear htm
      by_cases hk8 : 8 < k
      · have t0 : (8 : Int) < (k : Int) := by omega
        go_wp2
        go_ret
        exact ⟨false, rfl, by simp, hbel⟩
      · have t0 : ¬ (8 : Int) < (k : Int) := by omega
        by_cases hs : 80 < n + t
        · have t1 : (80 : Int) < (n : Int) + (t : Int) := by omega
          go_wp2
          go_ret
          exact ⟨false, rfl, by simp, hbel⟩
        · have t1 : ¬ (80 : Int) < (n : Int) + (t : Int) := by omega
          have HX : Hid (n + t = (lAll (L.take (k + 1))).length) := Lib.hid (by rw [HTK.out, List.length_append, ← HNN.out, ← HM.out, HT.out (by omega)])
          go_wp2
          go_roundw
          case rel => exact ⟨k + 1, n + t, by omega, by omega, by omega, by go_num, by go_num, HX, hbel⟩
          case measure => simp [intOf]; omega
    · obtain rfl : k = L.length := by omega
      have HX : Hid ((lAll L).length ≤ 80) := Lib.hid (by have := HNN.out; rw [List.take_length] at this; omega)
      go_wp2
      go_ret
      exact ⟨true, rfl, fun _ => ⟨HX.out, hk9⟩, hbel⟩
end Go.Proofs.Ytophfgijfmdbcaa.Mg
