/- Contracts of the package delta (chapter 4) and of its reference: rows of integers; check, In, Same, steps, Turn. -/
import Derived.Test.YtpenjandhgcgeaaNumV
import Derived.Test.YtpenjandhgcgeaaDelP
import Derived.IntWalk
namespace Go.Proofs.Ytpenjandhgcgeaa
open Go.RowKit

theorem Try.infoI64 : (Try.prog.info? 2).map (fun i => (i.zero, i.size, i.bytes)) = some (some (.int .i64 0), 1, 8) := by kernel_rfl

/-- A slice of integers reads. -/
def I64s (w : World) (B : Nat) (A : Option Addr) (l : List Int) : Prop := Reads w B 1 A l.length (l.map (Value.int .i64))
theorem i64_one (l : List Int) : ∀ u ∈ l.map (Value.int .i64), u.oneCell' = true := by
  intro u hu
  obtain ⟨b, _, rfl⟩ := List.mem_map.1 hu
  rfl
theorem I64s.cell {w : World} {B : Nat} {A : Option Addr} {l : List Int} (h : I64s w B A l) (hp : 0 < l.length) : ∃ b off, A = some ⟨b, off, none⟩ ∧ b < B ∧ ∀ j, j < l.length → w.cell? ⟨b, off + j, none⟩ = some (.int .i64 (l.getD j 0)) := by
  obtain ⟨b, off, e, hb, hc⟩ := h.2 (by omega)
  refine ⟨b, off, e, hb, fun j hj => hc j _ ?_⟩
  rw [List.getElem?_map, List.getElem?_eq_getElem hj]
  simp [List.getD, List.getElem?_eq_getElem hj]
theorem I64s.below {w w' : World} {B : Nat} {A : Option Addr} {l : List Int} (h : I64s w B A l) (hb : Below B w w') : I64s w' B A l := Reads.below h hb
theorem I64s.more {w : World} {B B' : Nat} {A : Option Addr} {l : List Int} (h : I64s w B A l) (hb : B ≤ B') : I64s w B' A l := Reads.more h hb
theorem I64s.to {w w' : World} {B B' : Nat} {A : Option Addr} {l : List Int} (h : I64s w B A l) (hb : Below B w w') (hB : B ≤ B') : I64s w' B' A l := (h.below hb).more hB
theorem own_i64 {w : World} {base : Nat} {e : TypeId} {A : Option Addr} {c : Nat} {l : List Int} (h : w.ownsRow base e 1 (.slice A l.length c) l.length (l.map (Value.int .i64))) : I64s w w.heap.size A l := Reads.of_own h

/-- A call hands back a new row and turns nothing that was there. -/
def RetInts (w : World) (l : List Int) (e : Ending) (w' : World) : Prop := ∃ v, e = .returned v ∧ w'.ownsRow w.heap.size 2 1 v l.length (l.map (Value.int .i64)) ∧ Below w.heap.size w w'
theorem RetInts.opened {w w' : World} {l : List Int} {e : Ending} (h : RetInts w l e w') :
    ∃ A c, e = .returned (.slice A l.length c) ∧ l.length ≤ c ∧ c ≤ maxLen ∧ I64s w' w'.heap.size A l ∧ Below w.heap.size w w' ∧ w'.ownsRow w.heap.size 2 1 (.slice A l.length c) l.length (l.map (Value.int .i64)) := by
  obtain ⟨v, rfl, hown, hbel⟩ := h
  obtain ⟨A, c, rfl, h1, h2, h3⟩ := own_slice hown
  exact ⟨A, c, rfl, h1, h2, h3, hbel, hown⟩
/-- A row and an error. -/
def RetIE (w : World) (r : List Int × Nat) (e : Ending) (w' : World) : Prop := ∃ v, e = .returned (.tuple #[v, .int .i64 (r.2 : Int)]) ∧ w'.ownsRow w.heap.size 2 1 v r.1.length (r.1.map (Value.int .i64)) ∧ Below w.heap.size w w'
theorem RetIE.opened {w w' : World} {r : List Int × Nat} {e : Ending} (h : RetIE w r e w') :
    ∃ A c, e = .returned (.tuple #[.slice A r.1.length c, .int .i64 (r.2 : Int)]) ∧ r.1.length ≤ c ∧ c ≤ maxLen ∧ I64s w' w'.heap.size A r.1 ∧ Below w.heap.size w w' ∧ w'.ownsRow w.heap.size 2 1 (.slice A r.1.length c) r.1.length (r.1.map (Value.int .i64)) := by
  obtain ⟨v, rfl, h2, h3⟩ := h
  obtain ⟨A, c, rfl, k1, k2, k3⟩ := own_slice h2
  exact ⟨A, c, rfl, k1, k2, own_i64 h2, h3, h2⟩
/-- Bytes and an error. -/
def RetBE (w : World) (r : List UInt8 × Nat) (e : Ending) (w' : World) : Prop := ∃ v, e = .returned (.tuple #[v, .int .i64 (r.2 : Int)]) ∧ w'.ownsRow w.heap.size 5 1 v r.1.length (r.1.map byteV) ∧ Below w.heap.size w w'
theorem RetBE.opened {w w' : World} {r : List UInt8 × Nat} {e : Ending} (h : RetBE w r e w') :
    ∃ A c, e = .returned (.tuple #[.slice A r.1.length c, .int .i64 (r.2 : Int)]) ∧ r.1.length ≤ c ∧ c ≤ maxLen ∧ Bytes w' w'.heap.size A r.1.length r.1 ∧ Below w.heap.size w w' ∧ w'.ownsRow w.heap.size 5 1 (.slice A r.1.length c) r.1.length (r.1.map byteV) := by
  obtain ⟨v, rfl, h2, h3⟩ := h
  obtain ⟨A, c, rfl, k1, k2, k3⟩ := own_slice h2
  exact ⟨A, c, rfl, k1, k2, own_bytes h2, h3, h2⟩

theorem dcheck_arg {l : List Int} {way : Int} (h : way < 0 ∨ 2 < way) : dcheck l way = 1 := by unfold dcheck; rw [if_pos h]
theorem dcheck_long {l : List Int} {way : Int} (h : ¬ (way < 0 ∨ 2 < way)) (hl : 2048 < l.length) : dcheck l way = 5 := by unfold dcheck; rw [if_neg h, if_pos hl]
theorem dcheck_ok {l : List Int} {way : Int} (h : ¬ (way < 0 ∨ 2 < way)) (hl : ¬ 2048 < l.length) (ha : l.all inB = true) : dcheck l way = 0 := by unfold dcheck; rw [if_neg h, if_neg hl, if_pos ha]
theorem dcheck_bad {l : List Int} {way : Int} (h : ¬ (way < 0 ∨ 2 < way)) (hl : ¬ 2048 < l.length) (ha : ¬ l.all inB = true) : dcheck l way = 2 := by unfold dcheck; rw [if_neg h, if_neg hl, if_neg ha]
theorem all_step {l : List Int} {k : Nat} {x : Int} (hk : k < l.length) (h : (l.take k).all inB = true) (hx : x = l.getD k 0) (hi : inB x = true) : (l.take (k + 1)).all inB = true := by
  rw [List.take_succ_eq_append_getElem hk, List.all_append, h]
  have : l[k] = x := by rw [hx]; simp [List.getD, List.getElem?_eq_getElem hk]
  simp [this, hi]
theorem all_not {l : List Int} {k : Nat} {x : Int} (hk : k < l.length) (hx : x = l.getD k 0) (hi : ¬ inB x = true) : ¬ l.all inB = true := by
  intro h
  refine hi (List.all_eq_true.1 h x ?_)
  rw [hx]; simp [List.getD, List.getElem?_eq_getElem hk]
theorem take_all {l : List Int} {k : Nat} (hk : l.length ≤ k) (h : (l.take k).all inB = true) : l.all inB = true := by rwa [List.take_of_length_le hk] at h

set_option maxRecDepth 100000 in
set_option maxHeartbeats 400000 in
theorem check_calls (w : World) {B c : Nat} {A : Option Addr} {l : List Int} (way : Int) (h : I64s w B A l) (hn : l.length ≤ 140737488355328) :
    Calls Try.prog 22 #[.slice A l.length c, .int .i64 way] w fun e w' => e = .returned (.int .i64 (dcheck l way : Nat)) ∧ w = w' := by
  by_cases hw : way < 0 ∨ 2 < way
  · have H := Lib.hid (dcheck_arg (l := l) hw)
    have hw' : way < 0 ∨ (¬ way < 0 ∧ 2 < way) := by omega
    clear hw
    rcases hw' with hw | ⟨hw, hw2⟩
    all_goals
      go_enter Try.func22, Try.ntmps22
      go_wp2
      go_ret
      exact ⟨by rw [H.out]; rfl, rfl⟩
  · have w0 : ¬ way < 0 := by omega
    have w2 : ¬ 2 < way := by omega
    by_cases hl : 2048 < l.length
    · have H := Lib.hid (dcheck_long (l := l) hw hl)
      clear hw
      go_enter Try.func22, Try.ntmps22
      go_wp2
      go_ret
      exact ⟨by rw [H.out]; rfl, rfl⟩
    · have H1 := Lib.hid (dcheck_ok (l := l) hw hl)
      have H2 := Lib.hid (dcheck_bad (l := l) hw hl)
      clear hw
      go_enter Try.func22, Try.ntmps22
      go_wp2
      go_loop [20] (fun i => ∃ k : Nat, k ≤ l.length ∧ i = .int .i64 (k : Int) ∧ Hid ((l.take k).all inB = true)) (fun i => l.length - (intOf i).toNat)
      case atStart => exact ⟨0, Nat.zero_le _, rfl, Lib.hid (by simp)⟩
      case round =>
        obtain ⟨k, hk, rfl, ha⟩ := hrel
        by_cases hlt : k < l.length
        · obtain ⟨b, off, rfl, _, hcell⟩ := h.cell (by omega)
          have hck := hcell k hlt
          obtain ⟨x, hx⟩ : ∃ x, x = l.getD k 0 := ⟨_, rfl⟩
          rw [← hx] at hck
          clear hcell
          by_cases hin : inB x = true
          · have b1 := inB_iff.1 hin
            have t1 : ¬ x < -1152921504606846976 := by omega
            have t2 : ¬ 1152921504606846976 < x := by omega
            have Ha := Lib.hid (all_step hlt ha.out hx hin)
            clear hx b1 hin
            go_wp2
            go_round
            case rel => exact ⟨k + 1, by omega, by go_num, Ha⟩
            case measure => simp [intOf]; omega
          · have Ha := Lib.hid (H2.out (all_not hlt hx hin))
            have b1 : x < -1152921504606846976 ∨ (¬ x < -1152921504606846976 ∧ 1152921504606846976 < x) := by rw [inB_iff] at hin; omega
            clear hx hin
            rcases b1 with b1 | ⟨b1, b2⟩
            all_goals
              go_wp2
              go_ret
              exact ⟨by rw [Ha.out]; rfl, rfl⟩
        · have Ha := Lib.hid (H1.out (take_all (by omega) ha.out))
          go_wp2
          go_ret
          exact ⟨by rw [Ha.out]; rfl, rfl⟩

theorem in_calls (x : Int) (w : World) : Calls Try.prog 26 #[.int .i64 x] w fun e w' => e = .returned (.bool (inB x)) ∧ w = w' := by
  by_cases hin : inB x = true
  · have b1 := inB_iff.1 hin
    have t1 : -1152921504606846976 ≤ x := b1.1
    have t2 : x ≤ 1152921504606846976 := b1.2
    have H := Lib.hid hin
    clear hin b1
    go_enter Try.func26, Try.ntmps26
    go_wp2
    go_ret
    exact ⟨by rw [H.out]; rfl, rfl⟩
  · have b1 : ¬ -1152921504606846976 ≤ x ∨ (-1152921504606846976 ≤ x ∧ ¬ x ≤ 1152921504606846976) := by rw [inB_iff] at hin; omega
    have H : Hid (inB x = false) := Lib.hid (by simpa using hin)
    clear hin
    rcases b1 with b1 | ⟨b1, b2⟩
    all_goals
      go_enter Try.func26, Try.ntmps26
      go_wp2
      go_ret
      exact ⟨by rw [H.out]; rfl, rfl⟩

set_option maxRecDepth 100000 in
set_option maxHeartbeats 400000 in
theorem checkR_calls (w : World) {B c : Nat} {A : Option Addr} {l : List Int} (way : Int) (h : I64s w B A l) (hn : l.length ≤ 140737488355328) :
    Calls Try.prog 12 #[.slice A l.length c, .int .i64 way] w fun e w' => e = .returned (.int .i64 (dcheck l way : Nat)) ∧ w = w' := by
  by_cases hw : way < 0 ∨ 2 < way
  · have H := Lib.hid (dcheck_arg (l := l) hw)
    have q0 : (way != 0) = true := net (by omega)
    have q1 : (way != 1) = true := net (by omega)
    have q2 : (way != 2) = true := net (by omega)
    clear hw
    go_enter Try.func12, Try.ntmps12
    go_wp2
    go_ret
    exact ⟨by rw [H.out]; rfl, rfl⟩
  · have hw3 : way = 0 ∨ way = 1 ∨ way = 2 := by omega
    by_cases hl : 2048 < l.length
    · have H := Lib.hid (dcheck_long (l := l) hw hl)
      clear hw
      rcases hw3 with rfl | rfl | rfl
      all_goals
        go_enter Try.func12, Try.ntmps12
        go_wp2
        go_ret
        exact ⟨by rw [H.out]; rfl, rfl⟩
    · have H1 := Lib.hid (dcheck_ok (l := l) hw hl)
      have H2 := Lib.hid (dcheck_bad (l := l) hw hl)
      clear hw
      rcases hw3 with rfl | rfl | rfl
      all_goals
        go_enter Try.func12, Try.ntmps12
        go_wp2
        go_loop [22] (fun i => ∃ k : Nat, k ≤ l.length ∧ i = .int .i64 (k : Int) ∧ Hid ((l.take k).all inB = true)) (fun i => l.length - (intOf i).toNat)
        case atStart => exact ⟨0, Nat.zero_le _, rfl, Lib.hid (by simp)⟩
        case round =>
          obtain ⟨k, hk, rfl, ha⟩ := hrel
          by_cases hlt : k < l.length
          · obtain ⟨b, off, rfl, _, hcell⟩ := h.cell (by omega)
            have hck := hcell k hlt
            obtain ⟨x, hx⟩ : ∃ x, x = l.getD k 0 := ⟨_, rfl⟩
            rw [← hx] at hck
            clear hcell
            have hcall := in_calls x
            by_cases hin : inB x = true
            · have Ha := Lib.hid (all_step hlt ha.out hx hin)
              rw [hin] at hcall
              have HC := Lib.hid hcall
              clear hx hin hcall
              go_wp2_with fail
              refine (HC.out _).mono ?_
              rintro en w' ⟨rfl, rfl⟩
              go_wp2
              go_round
              case rel => exact ⟨k + 1, by omega, by go_num, Ha⟩
              case measure => simp [intOf]; omega
            · have Ha := Lib.hid (H2.out (all_not hlt hx hin))
              rw [show inB x = false by simpa using hin] at hcall
              have HC := Lib.hid hcall
              clear hx hin hcall
              go_wp2_with fail
              refine (HC.out _).mono ?_
              rintro en w' ⟨rfl, rfl⟩
              go_wp2
              go_ret
              exact ⟨by rw [Ha.out]; rfl, rfl⟩
          · have Ha := Lib.hid (H1.out (take_all (by omega) ha.out))
            go_wp2
            go_ret
            exact ⟨by rw [Ha.out]; rfl, rfl⟩

theorem eq_step {l m : List Int} {k : Nat} (hl : l.length = m.length) (hk : k < l.length) (h : l.take k = m.take k) (he : l.getD k 0 = m.getD k 0) : l.take (k + 1) = m.take (k + 1) := by
  rw [List.take_succ_eq_append_getElem hk, List.take_succ_eq_append_getElem (by omega), h]
  have e1 : l.getD k 0 = l[k] := by simp [List.getD, List.getElem?_eq_getElem hk]
  have e2 : m.getD k 0 = m[k]'(by omega) := by simp [List.getD, List.getElem?_eq_getElem (show k < m.length by omega)]
  rw [← e1, ← e2, he]
theorem eq_end {l m : List Int} {k : Nat} (hl : l.length = m.length) (hk : l.length ≤ k) (h : l.take k = m.take k) : (l == m) = true := by
  rw [List.take_of_length_le hk, List.take_of_length_le (by omega)] at h
  simpa using h
theorem ne_at {l m : List Int} {k : Nat} (he : l.getD k 0 ≠ m.getD k 0) : (l == m) = false := by
  rw [beq_eq_false_iff_ne]; rintro rfl; exact he rfl
theorem ne_len {l m : List Int} (h : l.length ≠ m.length) : (l == m) = false := by
  rw [beq_eq_false_iff_ne]; rintro rfl; exact h rfl

set_option maxRecDepth 100000 in
set_option maxHeartbeats 400000 in
theorem same04_calls (w : World) {B1 B2 c1 c2 : Nat} {A1 A2 : Option Addr} {l m : List Int} (h1 : I64s w B1 A1 l) (h2 : I64s w B2 A2 m) (hn : l.length ≤ 140737488355328) :
    Calls Try.prog 13 #[.slice A1 l.length c1, .slice A2 m.length c2] w fun e w' => e = .returned (.bool (l == m)) ∧ Below w.heap.size w w' := by
  by_cases hlen : l.length = m.length
  · go_enter Try.func13, Try.ntmps13
    have q : ((l.length : Int) != (m.length : Int)) = false := nef (by omega)
    have HL := Lib.hid hlen
    have hle : l.length ≤ m.length := by omega
    have hle2 : m.length ≤ l.length := by omega
    clear hlen
    go_wp2
    go_loopw [13] (fun i wr => ∃ k n : Nat, k ≤ l.length ∧ i = .int .i64 (k : Int) ∧ Hid (l.take k = m.take k) ∧ wr = w.drewN n) (fun i _ => l.length - (intOf i).toNat)
    case atStart => exact ⟨0, 0, Nat.zero_le _, rfl, Lib.hid (by simp), rfl⟩
    case round =>
      obtain ⟨k, n, hk, rfl, heq, rfl⟩ := hrel
      by_cases hlt : k < l.length
      · obtain ⟨b1, off1, rfl, _, hcell1⟩ := h1.cell (by omega)
        obtain ⟨b2, off2, rfl, _, hcell2⟩ := h2.cell (by omega)
        have hck1 : w.cell? ⟨b1, off1 + k, none⟩ = some (.int .i64 (l.getD k 0)) := hcell1 k hlt
        have hck2 : w.cell? ⟨b2, off2 + k, none⟩ = some (.int .i64 (m.getD k 0)) := hcell2 k (by omega)
        have hlt2 : k < m.length := by omega
        have i1 : (k : Int) < (l.length : Int) := by omega
        have i2 : (k : Int) < (m.length : Int) := by omega
        have i0 : (0 : Int) ≤ (k : Int) := by omega
        clear hcell1 hcell2
        by_cases he : l.getD k 0 = m.getD k 0
        · have Hs := Lib.hid (eq_step HL.out hlt heq.out he)
          have qe : (l.getD k 0 != m.getD k 0) = false := nef he
          clear he
          generalize l.getD k 0 = x at *
          generalize m.getD k 0 = y at *
          go_wp2_with fail
          go_quiet (fail)
          go_wp2
          go_roundw
          case rel => exact ⟨k + 1, n + nq, by omega, by go_num, Hs, rfl⟩
          case measure => simp [intOf]; omega
        · have Hs := Lib.hid (ne_at he)
          have qe : (l.getD k 0 != m.getD k 0) = true := net he
          clear he
          generalize l.getD k 0 = x at *
          generalize m.getD k 0 = y at *
          go_wp2_with fail
          go_quiet (fail)
          go_wp2
          go_ret
          exact ⟨by rw [Hs.out]; rfl, below_drewN_ (below_drewN_ (Below.refl _ _) _) _⟩
      · have Hs := Lib.hid (eq_end HL.out (by omega) heq.out)
        go_wp2
        go_ret
        exact ⟨by rw [Hs.out]; rfl, below_drewN_ (Below.refl _ _) _⟩
  · have Hs := Lib.hid (ne_len hlen)
    have q : ((l.length : Int) != (m.length : Int)) = true := net (by omega)
    clear hlen
    go_enter Try.func13, Try.ntmps13
    go_wp2
    go_ret
    exact ⟨by rw [Hs.out]; rfl, Below.refl _ _⟩
end Go.Proofs.Ytpenjandhgcgeaa
