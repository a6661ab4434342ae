/- Contracts of the package crc (chapter 3): Sum. -/
import Derived.Test.YtnkflgleiofinaaCrcA
import Derived.Test.YtnkflgleiofinaaRep
namespace Go.Proofs.Ytnkflgleiofinaa
open Go.RowKit

/-- A slice of bytes as one cell. -/
def bytesRep : Rep (List UInt8) where
  size := 1
  pos := by omega
  cells := fun w B x cs => ∃ A c, cs = [.slice A x.length c] ∧ x.length ≤ c ∧ x.length ≤ 140737488351232 ∧ Bytes w B A x.length x
  len := fun ⟨_, _, h, _⟩ => by rw [h]; rfl
  one := fun ⟨_, _, h, _⟩ u hu => by rw [h] at hu; simp at hu; rw [hu]; rfl
  keep := fun ⟨A, c, h, h1, h2, h3⟩ hb => ⟨A, c, h, h1, h2, h3.below hb⟩
  more := fun ⟨A, c, h, h1, h2, h3⟩ hb => ⟨A, c, h, h1, h2, h3.more hb⟩

/-- One of the slices. -/
theorem bytes_at {w : World} {B : Nat} {A : Option Addr} {L : List (List UInt8)} (h : Sl bytesRep w B A L) {k : Nat} (hk : k < L.length) :
    ∃ b off Ak ck, A = some ⟨b, off, none⟩ ∧ b < B ∧ w.cell? ⟨b, off + k, none⟩ = some (.slice Ak L[k].length ck) ∧ L[k].length ≤ ck ∧ L[k].length ≤ 140737488351232 ∧ Bytes w B Ak L[k].length L[k] := by
  obtain ⟨b, off, cs, e, hb, ⟨Ak, ck, hcs, h1, h2, h3⟩, hc⟩ := h.at_ hk
  refine ⟨b, off, Ak, ck, e, hb, ?_, h1, h2, h3⟩
  have := hc 0 (.slice Ak L[k].length ck) (by rw [hcs]; rfl)
  have e1 : bytesRep.size = 1 := rfl
  rw [e1, Nat.mul_one, Nat.add_zero] at this
  exact this
theorem bytes_one {w : World} {g B : Nat} {t : TypeId} {A : Option Addr} {c : Nat} {l : List UInt8} (hb : Blk w g t #[.slice A l.length c]) (h : Bytes w B A l.length l) (hc : l.length ≤ c) (hm : l.length ≤ 140737488351232) (hg : g < B) :
    Sl bytesRep w B (some ⟨g, 0, none⟩) [l] := by
  refine ⟨[[.slice A l.length c]], ⟨rfl, fun i h1 h2 => ?_⟩, rfl, fun _ => ⟨g, 0, rfl, hg, fun j u hu => ?_⟩⟩
  · obtain rfl : i = 0 := by simp at h1; omega
    exact ⟨A, c, rfl, hc, hm, h⟩
  · simp only [List.flatten_cons, List.flatten_nil, List.append_nil] at hu
    rw [Nat.zero_add, hb.cell j]
    match j, hu with
    | 0, hu => exact hu
    | j + 1, hu => simp at hu

theorem wrote_next {T k : Nat} {L : List (List UInt8)} (hk : k < L.length) (h : T = 4294967295 - crcRun 4294967295 (L.take k).flatten) : wroteN T L[k] = 4294967295 - crcRun 4294967295 (L.take (k + 1)).flatten := by
  have h1 := crcRun_lt (L.take k).flatten (c := 4294967295) (by decide)
  have e : 4294967295 - T = crcRun 4294967295 (L.take k).flatten := by omega
  unfold wroteN
  rw [e, List.take_succ_eq_append_getElem hk, List.flatten_append, crcRun_app]
  simp
theorem wrote_zero (L : List (List UInt8)) : 0 = 4294967295 - crcRun 4294967295 (L.take 0).flatten := by simp [crcRun_nil]
theorem wrote_all {T : Nat} {L : List (List UInt8)} (h : T = 4294967295 - crcRun 4294967295 (L.take L.length).flatten) : T = crcOf L.flatten := by
  rw [h, List.take_length]; rfl

set_option maxRecDepth 100000 in
set_option maxHeartbeats 800000 in
theorem sum_calls (w : World) {B c : Nat} {A : Option Addr} {L : List (List UInt8)} (h : Sl bytesRep w B A L) (hB : B ≤ w.heap.size) (hn : L.length ≤ 140737488355328) :
    Calls Try.prog 11 #[.slice A L.length c] w fun e w' => e = .returned (.int .u32 ((crcOf L.flatten : Nat) : Int)) ∧ Below w.heap.size w w' := by
  go_enter Try.func11, Try.ntmps11
  go_wp2
  go_loopw [8] (fun i wr => ∃ (T k : Nat), i = .int .i64 (k : Int) ∧ T ≤ 4294967295 ∧ k ≤ L.length ∧ Hid (T = 4294967295 - crcRun 4294967295 (L.take k).flatten) ∧ Blk wr w.heap.size 27 #[.int .u32 (T : Int)] ∧ Below w.heap.size w wr) (fun i _ => L.length - (intOf i).toNat)
  case atStart => exact ⟨0, 0, rfl, by omega, by omega, Lib.hid (wrote_zero L), Blk.new w _ _, (Below.refl _ _).alloc (Nat.le_refl _) _⟩
  case round =>
    obtain ⟨T, k, rfl, hT, hk, hrun, hblk, hbel⟩ := hrel
    by_cases hlt : k < L.length
    · have hs := h.below (hbel.mono hB)
      obtain ⟨b, off, Ak, ck, rfl, hbB, hcell, h1, h2, h3⟩ := bytes_at hs hlt
      have Hn := Lib.hid (wrote_next hlt hrun.out)
      have hT' : wroteN T L[k] ≤ 4294967295 := by unfold wroteN; omega
      go_wp2_with fail
      refine (write_calls wr hblk h3 hT (by omega)).mono ?_
      rintro en w1 ⟨rfl, hblk1, ho⟩
      have hbel1 : Below w.heap.size w w1 := hbel.trans (ho.below (Nat.le_refl _) hbel.size)
      go_wp2
      go_roundw
      case rel => exact ⟨wroteN T L[k], k + 1, by go_num, hT', by omega, Hn, hblk1, hbel1⟩
      case measure => simp [intOf]; omega
    · have hk2 : k = L.length := by omega
      subst hk2
      have Hf := Lib.hid (wrote_all hrun.out)
      go_wp2_with fail
      refine (dsum_calls wr hblk).mono ?_
      rintro en w' ⟨rfl, rfl⟩
      go_wp2
      go_ret
      exact ⟨by rw [← Hf.out]; rfl, hbel⟩
end Go.Proofs.Ytnkflgleiofinaa
