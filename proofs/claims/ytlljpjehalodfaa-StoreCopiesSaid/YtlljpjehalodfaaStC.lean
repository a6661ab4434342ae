/- A store's making, clock, room, and an object made (chapter 14). -/
import Derived.Test.YtlljpjehalodfaaProg
import Derived.Test.YtlljpjehalodfaaStB
namespace Go.Proofs.Ytlljpjehalodfaa
open Go.RowKit
namespace St

def emptyLS (g : Nat) : LS := ⟨g + 2, g, g + 1, [], [], 0, 0, 0, 0⟩
theorem inv_empty (g n : Nat) : Inv (emptyLS g) n where
  all := rfl
  big := Nat.zero_le _
  od p hp := by cases hp
  pd p hp := by cases hp
  on := Nat.zero_le _
  un := Nat.zero_le _
  pn p hp := by cases hp
  v0 := Int.le_refl _
  v1 := Int.natCast_nonneg _
  i0 := Int.le_refl _
  i1 := Int.natCast_nonneg _
  t0 := Int.le_refl _
  t1 := by show (0 : Int) ≤ 1099511627776; decide
set_option maxHeartbeats 800000 in
theorem new_calls (w : World) : Calls Try.prog 9 #[] w fun e w' => e = .returned (.pointer (some ⟨w.heap.size + 2, 0, none⟩)) ∧ At w' (emptyLS w.heap.size) ∧ Below w.heap.size w w' := by
  have hmm := @run_makeMap Try.prog
  have HU := Lib.hid Try.underlying58
  have HU2 := Lib.hid Try.underlying59
  go_enter Try.func9, Try.ntmps9
  go_wp2
  go_ret
  have b1 : Below w.heap.size w (w.alloc (.map #[] 0)) := (Below.refl _ _).alloc (Nat.le_refl _) _
  have hz : (w.alloc (.map #[] 0)).heap.size = w.heap.size + 1 := by simp
  have hz2 : ((w.alloc (.map #[] 0)).alloc (.map #[] 0)).heap.size = w.heap.size + 2 := by simp
  have b2 : Below w.heap.size w ((w.alloc (.map #[] 0)).alloc (.map #[] 0)) := b1.alloc (by omega) _
  have m1 := MapAt.new kS evO w
  have m2 := MapAt.new kI evU (w.alloc (.map #[] 0))
  rw [hz] at m2
  refine ⟨by simp, ⟨?_, (m1.alloc _).alloc _, m2.alloc _, fun p hp => (by cases hp), fun p hp => (by cases hp), fun p hp => (by cases hp), (by simp [emptyLS]), fun p hp => (by cases hp), fun p hp => (by cases hp), fun p hp => (by cases hp)⟩, b2.alloc (by omega) _⟩
  have := Blk.new ((w.alloc (.map #[] 0)).alloc (.map #[] 0)) 61 (emptyLS w.heap.size).cells
  rw [hz2] at this
  exact this

def tickE (now n : Int) : Int := if n < 0 ∨ 1099511627776 < n then 1 else if 1099511627775 - now < n then 2 else 0
def LS.tick (L : LS) (n : Int) : LS := if tickE L.now n = 0 then { L with now := L.now + n } else L
theorem tick_calls (w : World) {L : LS} (h : At w L) {n : Int} (hn : -9223372036854775808 ≤ n) (hn' : n ≤ 9223372036854775807) (h0 : 0 ≤ L.now) (h1 : L.now ≤ 1099511627776) :
    Calls Try.prog 19 #[.pointer (some ⟨L.gs, 0, none⟩), .int .i64 n] w fun e w' => e = .returned (.int .i64 (tickE L.now n)) ∧ At w' (L.tick n) ∧ Keep L.foot w w' := by
  have c4 := h.c_now
  have HA := Lib.hid h
  have HFZ := h.blk.frozen 4
  clear h
  by_cases a1 : n < 0
  · have HT : Hid (tickE L.now n = 1) := Lib.hid (by unfold tickE; rw [if_pos (.inl a1)])
    have HL : Hid (L.tick n = L) := Lib.hid (by unfold LS.tick; rw [HT.out]; rfl)
    have b1 := dct a1
    go_enter Try.func19, Try.ntmps19
    go_wp2
    go_ret
    exact ⟨by rw [HT.out]; rfl, by rw [HL.out]; exact HA.out, Keep.refl _ _⟩
  · by_cases a2 : 1099511627776 < n
    · have HT : Hid (tickE L.now n = 1) := Lib.hid (by unfold tickE; rw [if_pos (.inr a2)])
      have HL : Hid (L.tick n = L) := Lib.hid (by unfold LS.tick; rw [HT.out]; rfl)
      have b1 := dcf a1
      have b2 := dct a2
      go_enter Try.func19, Try.ntmps19
      go_wp2
      go_ret
      exact ⟨by rw [HT.out]; rfl, by rw [HL.out]; exact HA.out, Keep.refl _ _⟩
    · by_cases a3 : 1099511627775 - L.now < n
      · have HT : Hid (tickE L.now n = 2) := Lib.hid (by unfold tickE; rw [if_neg (by omega), if_pos a3])
        have HL : Hid (L.tick n = L) := Lib.hid (by unfold LS.tick; rw [HT.out]; rfl)
        have b1 := dcf a1
        have b2 := dcf a2
        go_enter Try.func19, Try.ntmps19
        go_wp2
        go_ret
        exact ⟨by rw [HT.out]; rfl, by rw [HL.out]; exact HA.out, Keep.refl _ _⟩
      · have HT : Hid (tickE L.now n = 0) := Lib.hid (by unfold tickE; rw [if_neg (by omega), if_neg a3])
        have HL : Hid (L.tick n = { L with now := L.now + n }) := Lib.hid (by unfold LS.tick; rw [HT.out]; rfl)
        have b1 := dcf a1
        have b2 := dcf a2
        go_enter Try.func19, Try.ntmps19
        go_wp2
        go_ret
        exact ⟨by rw [HT.out]; rfl, by rw [HL.out]; exact HA.out.set rfl rfl rfl rfl rfl rfl, (Keep.refl _ _).setCell (.inl (.inl rfl)) _⟩

def ob0 : Ob := ⟨none, 0, [], 0, 0⟩
theorem elimO (l : List (ByteArray × Ob)) (k : ByteArray) : (mget l k).elim zO evO = evO ((mget l k).getD ob0) := by
  cases mget l k <;> rfl
def LS.crowded (L : LS) (k : ByteArray) : Bool := !(mget L.objs k).isSome && decide (512 ≤ L.objs.length)
set_option maxHeartbeats 800000 in
theorem crowded_calls (w : World) {L : LS} (h : At w L) {k : ByteArray} (hk : k.size ≤ maxLen) (hn : L.objs.length ≤ 1000000) :
    Calls Try.prog 38 #[.pointer (some ⟨L.gs, 0, none⟩), .string k] w fun e w' => e = .returned (.bool (L.crowded k)) ∧ Below w.heap.size w w' := by
  have c0 := h.c_bo
  have HM := Lib.hid h.mo
  have HU := Lib.hid Try.underlying58
  have HOK : Hid ((kS).ok k) := Lib.hid hk
  have hlt := h.blk.lt
  have HE := Lib.hid (elimO L.objs k)
  unfold LS.crowded
  clear h
  generalize ho : (mget L.objs k).getD ob0 = o at *
  have HV : Hid (evO o = .agg #[.slice o.A o.d.length o.c, .int .i64 o.ver, .int .i64 o.born]) := Lib.hid rfl
  cases hq : (mget L.objs k).isSome with
  | true =>
    go_enter Try.func38, Try.ntmps38
    go_wp2_with (at_lookup; go_must (refine wpList_askv _ rfl _ _ rfl HM.out HU.out (zeroO _) k rfl rfl HOK.out _ true (HE.out.trans HV.out) hq ?_))
    go_ret
    exact ⟨rfl, (Below.refl _ _).alloc (Nat.le_refl _) _⟩
  | false =>
    have hlen := (HM.out.alloc (.cells #[.slice o.A o.d.length o.c, .int .i64 o.ver, .int .i64 o.born] 63)).len_run HU.out 3
    have hlt1 : L.gs < (w.alloc (.cells #[.slice o.A o.d.length o.c, .int .i64 o.ver, .int .i64 o.born] 63)).heap.size := by simp; omega
    go_enter Try.func38, Try.ntmps38
    go_wp2_with (at_lookup; go_must (refine wpList_askv _ rfl _ _ rfl HM.out HU.out (zeroO _) k rfl rfl HOK.out _ false (HE.out.trans HV.out) hq ?_))
    go_ret
    refine ⟨?_, (Below.refl _ _).alloc (Nat.le_refl _) _⟩
    have e : decide ((512 : Int) ≤ (L.objs.length : Int)) = (!false && decide (512 ≤ L.objs.length)) := by
      rw [Bool.not_false, Bool.true_and]; exact decide_eq_decide.2 (by omega)
    exact congrArg (fun b => Ending.returned (.bool b)) e
end St
end Go.Proofs.Ytlljpjehalodfaa
