/- A producer's mark, the place of an entry, whether a commit was made (chapter 13). -/
import Derived.Test.YtjbmlhipjceeeaaGreatProg
import Derived.Test.YtjbmlhipjceeeaaGreatMfF
import Derived.Test.YtjbmlhipjceeeaaGreatMfG
namespace Go.Proofs.YtjbmlhipjceeeaaGreat.Mf
set_option linter.unusedVariables false
set_option linter.unusedSimpArgs false
open Go.RowKit Go.Proofs.YtjbmlhipjceeeaaGreat

def seqL (k : Int) : List Mk → Int
  | [] => 0
  | x :: r => if x.maker = k then x.seq else seqL k r
theorem seq_at {k : Int} : ∀ {l : List Mk} {j : Nat}, j < l.length → (∀ i, i < j → (gt l i).maker ≠ k) → (gt l j).maker = k → seqL k l = (gt l j).seq
  | [], j, hj, _, _ => absurd hj (by simp)
  | x :: r, 0, _, _, h => if_pos h
  | x :: r, j + 1, hj, h1, h2 => by
    unfold seqL
    rw [if_neg (show ¬ x.maker = k from h1 0 (by omega)), seq_at (l := r) (j := j) (by simpa using hj) (fun i hi => h1 (i + 1) (by omega)) h2]
    rfl
theorem seq_none {k : Int} : ∀ {l : List Mk}, (∀ i, i < l.length → (gt l i).maker ≠ k) → seqL k l = 0
  | [], _ => rfl
  | x :: r, h => by
    unfold seqL
    rw [if_neg (show ¬ x.maker = k from h 0 (by simp)), seq_none (l := r) (fun i hi => h (i + 1) (by simpa using hi))]
/-- The place of the first thing that p tells of, or the list's length. -/
def fi {α : Type} (p : α → Bool) : List α → Nat
  | [] => 0
  | x :: r => if p x = true then 0 else fi p r + 1
theorem fi_at {α : Type} [Inhabited α] {p : α → Bool} : ∀ {l : List α} {j : Nat}, j < l.length → (∀ i, i < j → p (gt l i) = false) → p (gt l j) = true → fi p l = j
  | [], j, hj, _, _ => absurd hj (by simp)
  | x :: r, 0, _, _, h => if_pos h
  | x :: r, j + 1, hj, h1, h2 => by
    unfold fi
    rw [if_neg (show ¬ p x = true from by rw [show p x = false from h1 0 (by omega)]; decide), fi_at (l := r) (j := j) (by simpa using hj) (fun i hi => h1 (i + 1) (by omega)) h2]
theorem fi_none {α : Type} [Inhabited α] {p : α → Bool} : ∀ {l : List α}, (∀ i, i < l.length → p (gt l i) = false) → fi p l = l.length
  | [], _ => rfl
  | x :: r, h => by
    unfold fi
    rw [if_neg (show ¬ p x = true from by rw [show p x = false from h 0 (by simp)]; decide), fi_none (l := r) (fun i hi => h (i + 1) (by simpa using hi))]
    rfl
/-- -1: nowhere. -/
def ix {α : Type} (p : α → Bool) (l : List α) : Int := if fi p l = l.length then -1 else (fi p l : Int)
def keyIs (k : ByteArray) (x : En) : Bool := x.key.toList == k.toList

set_option maxRecDepth 100000 in
set_option maxHeartbeats 1600000 in
theorem mark_of (w : World) {B : Nat} {m : Md} {p : Pl} (h : Man w B m p) (hB : B ≤ w.heap.size) (k : Int) : Calls Tryz.prog 24 #[mdV m p, .int .i64 k] w fun e w' => e = .returned (.int .i64 (seqL k m.M)) ∧ Below w.heap.size w w' := by
  have HB := Lib.hid ((Below.refl w.heap.size w).alloc (Nat.le_refl _) (.cells #[.int .i64 m.gen, .int .i64 m.cut, .int .i64 m.fence, .slice p.AE m.E.length p.cE, .slice p.AM m.M.length p.cM, .slice p.AO m.O.length p.cO] 26))
  have HR := Lib.hid h.rm
  have hle := h.lm
  clear h
  obtain ⟨AE, cE, AM, cM, AO, cO⟩ := p
  dsimp only at *
  go_enter Tryz.func24, Tryz.ntmps24
  go_wp2
  go_loopw [10] (fun i wr => ∃ j : Nat, j ≤ m.M.length ∧ i = .int .i64 (j : Int) ∧ Hid (∀ i, i < j → (gt m.M i).maker ≠ k) ∧ Below w.heap.size w wr) (fun i _ => m.M.length - (intOf i).toNat)
  case atStart => exact ⟨0, Nat.zero_le _, rfl, Lib.hid fun i hi => absurd hi (by omega), HB.out⟩
  case round =>
    obtain ⟨j, hj, rfl, hall, hbel⟩ := hrel
    by_cases hlt : j < m.M.length
    · have hsz := hbel.size
      have hr := HR.out.below (hbel.mono hB)
      obtain ⟨b, off, rfl, hbB⟩ := row_addr hr (by omega)
      obtain ⟨p0, p1⟩ : wr.cell? ⟨b, off + j * 2, none⟩ = some (.int .i64 (gt m.M j).maker) ∧ wr.cell? ⟨b, off + j * 2 + 1, none⟩ = some (.int .i64 (gt m.M j).seq) := ⟨row_cell mcs_len hr hlt (j := 0) rfl, row_cell mcs_len hr hlt (j := 1) rfl⟩
      have HS := Lib.hid fun hh => seq_at hlt hall.out hh
      have HN : Hid ((gt m.M j).maker ≠ k → ∀ i, i < j + 1 → (gt m.M i).maker ≠ k) := Lib.hid fun hh i hi => by
        rcases Nat.lt_or_ge i j with h1 | h1
        · exact hall.out i h1
        · obtain rfl : i = j := by omega
          exact hh
      clear hr HR hall
      generalize gt m.M j = x at *
      have hbe := hbel.trans (((Below.refl wr.heap.size wr).alloc (Nat.le_refl _) (.cells #[.int .i64 x.maker, .int .i64 x.seq] 44)).mono hsz)
      by_cases hx : x.maker = k
      · have HV := Lib.hid (HS.out hx)
        have t0 : (x.maker == k) = true := eqt hx
        clear hx
        go_wp2
        go_ret
        exact ⟨by rw [HV.out]; rfl, hbe⟩
      · have HN2 := Lib.hid (HN.out hx)
        have t0 : (x.maker == k) = false := eqf hx
        clear hx
        go_wp2
        go_roundw
        case rel => exact ⟨j + 1, by omega, by go_num, HN2, hbe⟩
        case measure => simp [intOf]; omega
    · obtain rfl : j = m.M.length := by omega
      have HV := Lib.hid (seq_none hall.out)
      go_wp2
      go_ret
      exact ⟨by rw [HV.out]; rfl, hbel⟩
set_option maxRecDepth 100000 in
set_option maxHeartbeats 1600000 in
theorem seqR_of (w : World) {B : Nat} {m : Md} {p : Pl} (h : Man w B m p) (hB : B ≤ w.heap.size) (k : Int) : Calls Tryz.prog 38 #[mdV m p, .int .i64 k] w fun e w' => e = .returned (.int .i64 (seqL k m.M)) ∧ Below w.heap.size w w' := by
  have HB := Lib.hid ((Below.refl w.heap.size w).alloc (Nat.le_refl _) (.cells #[.int .i64 m.gen, .int .i64 m.cut, .int .i64 m.fence, .slice p.AE m.E.length p.cE, .slice p.AM m.M.length p.cM, .slice p.AO m.O.length p.cO] 26))
  have HR := Lib.hid h.rm
  have hle := h.lm
  clear h
  obtain ⟨AE, cE, AM, cM, AO, cO⟩ := p
  dsimp only at *
  go_enter Tryz.func38, Tryz.ntmps38
  go_wp2
  go_loopw [10] (fun i wr => ∃ j : Nat, j ≤ m.M.length ∧ i = .int .i64 (j : Int) ∧ Hid (∀ i, i < j → (gt m.M i).maker ≠ k) ∧ Below w.heap.size w wr) (fun i _ => m.M.length - (intOf i).toNat)
  case atStart => exact ⟨0, Nat.zero_le _, rfl, Lib.hid fun i hi => absurd hi (by omega), HB.out⟩
  case round =>
    obtain ⟨j, hj, rfl, hall, hbel⟩ := hrel
    by_cases hlt : j < m.M.length
    · have hsz := hbel.size
      have hr := HR.out.below (hbel.mono hB)
      obtain ⟨b, off, rfl, hbB⟩ := row_addr hr (by omega)
      obtain ⟨p0, p1⟩ : wr.cell? ⟨b, off + j * 2, none⟩ = some (.int .i64 (gt m.M j).maker) ∧ wr.cell? ⟨b, off + j * 2 + 1, none⟩ = some (.int .i64 (gt m.M j).seq) := ⟨row_cell mcs_len hr hlt (j := 0) rfl, row_cell mcs_len hr hlt (j := 1) rfl⟩
      have HS := Lib.hid fun hh => seq_at hlt hall.out hh
      have HN : Hid ((gt m.M j).maker ≠ k → ∀ i, i < j + 1 → (gt m.M i).maker ≠ k) := Lib.hid fun hh i hi => by
        rcases Nat.lt_or_ge i j with h1 | h1
        · exact hall.out i h1
        · obtain rfl : i = j := by omega
          exact hh
      clear hr HR hall
      generalize gt m.M j = x at *
      have hbe := hbel.trans (((Below.refl wr.heap.size wr).alloc (Nat.le_refl _) (.cells #[.int .i64 x.maker, .int .i64 x.seq] 44)).mono hsz)
      by_cases hx : x.maker = k
      · have HV := Lib.hid (HS.out hx)
        have t0 : (x.maker == k) = true := eqt hx
        clear hx
        go_wp2
        go_ret
        exact ⟨by rw [HV.out]; rfl, hbe⟩
      · have HN2 := Lib.hid (HN.out hx)
        have t0 : (x.maker == k) = false := eqf hx
        clear hx
        go_wp2
        go_roundw
        case rel => exact ⟨j + 1, by omega, by go_num, HN2, hbe⟩
        case measure => simp [intOf]; omega
    · obtain rfl : j = m.M.length := by omega
      have HV := Lib.hid (seq_none hall.out)
      go_wp2
      go_ret
      exact ⟨by rw [HV.out]; rfl, hbel⟩
theorem did_of (w : World) {B : Nat} {m : Md} {p : Pl} (h : Man w B m p) (hB : B ≤ w.heap.size) (y : Ow) : Calls Tryz.prog 23 #[mdV m p, owV y] w fun e w' => e = .returned (.bool (m.O.any (didB y))) ∧ Below w.heap.size w w' := by
  have HB := Lib.hid (((Below.refl w.heap.size w).alloc (Nat.le_refl _) (.cells #[.int .i64 m.gen, .int .i64 m.cut, .int .i64 m.fence, .slice p.AE m.E.length p.cE, .slice p.AM m.M.length p.cM, .slice p.AO m.O.length p.cO] 26)).alloc (by simp) (.cells #[.int .i64 y.agent, .int .i64 y.life, .int .i64 y.count] 29))
  have HA : Hid (Calls Tryz.prog 71 #[.slice p.AO m.O.length p.cO, .func (.func 72) #[] #[.pointer (some ⟨w.heap.size + 1, 0, none⟩)]] ((w.alloc (.cells #[.int .i64 m.gen, .int .i64 m.cut, .int .i64 m.fence, .slice p.AE m.E.length p.cE, .slice p.AM m.M.length p.cM, .slice p.AO m.O.length p.cO] 26)).alloc (.cells #[.int .i64 y.agent, .int .i64 y.life, .int .i64 y.count] 29)) fun e w' => e = .returned (.bool (m.O.any (didB y))) ∧ Below w.heap.size ((w.alloc (.cells #[.int .i64 m.gen, .int .i64 m.cut, .int .i64 m.fence, .slice p.AE m.E.length p.cE, .slice p.AM m.M.length p.cM, .slice p.AO m.O.length p.cO] 26)).alloc (.cells #[.int .i64 y.agent, .int .i64 y.life, .int .i64 y.count] 29)) w') := Lib.hid (by
    refine (anyO_calls _ (p := didB y) ⟨enters_of Tryz.func72 (by kernel_rfl) rfl, fun x _ W hW => ?_⟩ (h.ro.below (HB.out.mono hB)) (by simp; omega) h.lo).mono ?_
    · have hb := (Blk.new (w.alloc (.cells #[.int .i64 m.gen, .int .i64 m.cut, .int .i64 m.fence, .slice p.AE m.E.length p.cE, .slice p.AM m.M.length p.cM, .slice p.AO m.O.length p.cO] 26)) 29 #[.int .i64 y.agent, .int .i64 y.life, .int .i64 y.count]).below hW (by simp)
      rw [World.size_alloc] at hb
      exact did_calls x y W ⟨hb.cell 0, hb.cell 1, hb.cell 2⟩
    · rintro e w' ⟨rfl, hb⟩
      exact ⟨rfl, hb.mono (by simp; omega)⟩)
  clear h
  go_enter Tryz.func23, Tryz.ntmps23
  go_wp2_with fail
  refine HA.out.mono ?_
  rintro e w1 ⟨rfl, hb1⟩
  go_wp2
  go_ret
  exact ⟨rfl, HB.out.trans hb1⟩
set_option maxRecDepth 100000 in
set_option maxHeartbeats 1600000 in
theorem findR_of (w : World) {B : Nat} {m : Md} {p : Pl} (h : Man w B m p) (hB : B ≤ w.heap.size) (k : ByteArray) : Calls Tryz.prog 86 #[mdV m p, .string k] w fun e w' => e = .returned (.int .i64 (ix (keyIs k) m.E)) ∧ Below w.heap.size w w' := by
  have HB := Lib.hid ((Below.refl w.heap.size w).alloc (Nat.le_refl _) (.cells #[.int .i64 m.gen, .int .i64 m.cut, .int .i64 m.fence, .slice p.AE m.E.length p.cE, .slice p.AM m.M.length p.cM, .slice p.AO m.O.length p.cO] 26))
  have HR := Lib.hid h.re
  have hle := h.le
  clear h
  obtain ⟨AE, cE, AM, cM, AO, cO⟩ := p
  dsimp only at *
  go_enter Tryz.func86, Tryz.ntmps86
  go_wp2
  go_loopw [10] (fun i wr => ∃ j : Nat, j ≤ m.E.length ∧ i = .int .i64 (j : Int) ∧ Hid (∀ i, i < j → keyIs k (gt m.E i) = false) ∧ Below w.heap.size w wr) (fun i _ => m.E.length - (intOf i).toNat)
  case atStart => exact ⟨0, Nat.zero_le _, rfl, Lib.hid fun i hi => absurd hi (by omega), HB.out⟩
  case round =>
    obtain ⟨j, hj, rfl, hall, hbel⟩ := hrel
    by_cases hlt : j < m.E.length
    · have hsz := hbel.size
      have hr := HR.out.below (hbel.mono hB)
      obtain ⟨b, off, rfl, hbB⟩ := row_addr hr (by omega)
      obtain ⟨p0, p1, p2, p3, p4, p5, p6, p7, p8⟩ : wr.cell? ⟨b, off + j * 9, none⟩ = some (.string (gt m.E j).key) ∧ wr.cell? ⟨b, off + j * 9 + 1, none⟩ = some (.int .i64 (gt m.E j).window) ∧ wr.cell? ⟨b, off + j * 9 + 2, none⟩ = some (.string (gt m.E j).part) ∧ wr.cell? ⟨b, off + j * 9 + 3, none⟩ = some (.int .i64 (gt m.E j).first) ∧ wr.cell? ⟨b, off + j * 9 + 4, none⟩ = some (.int .i64 (gt m.E j).last) ∧ wr.cell? ⟨b, off + j * 9 + 5, none⟩ = some (.int .i64 (gt m.E j).rows) ∧ wr.cell? ⟨b, off + j * 9 + 6, none⟩ = some (.int .i64 (gt m.E j).size) ∧ wr.cell? ⟨b, off + j * 9 + 7, none⟩ = some (.int .u32 (gt m.E j).sum) ∧ wr.cell? ⟨b, off + j * 9 + 8, none⟩ = some (.int .i64 (gt m.E j).born) := ⟨row_cell ecs_len hr hlt (j := 0) rfl, row_cell ecs_len hr hlt (j := 1) rfl, row_cell ecs_len hr hlt (j := 2) rfl, row_cell ecs_len hr hlt (j := 3) rfl, row_cell ecs_len hr hlt (j := 4) rfl, row_cell ecs_len hr hlt (j := 5) rfl, row_cell ecs_len hr hlt (j := 6) rfl, row_cell ecs_len hr hlt (j := 7) rfl, row_cell ecs_len hr hlt (j := 8) rfl⟩
      have HS : Hid (((gt m.E j).key.toList == k.toList) = true → ix (keyIs k) m.E = (j : Int)) := Lib.hid fun hh => by unfold ix; rw [fi_at hlt hall.out hh, if_neg (by omega)]
      have HN : Hid (((gt m.E j).key.toList == k.toList) = false → ∀ i, i < j + 1 → keyIs k (gt m.E i) = false) := Lib.hid fun hh => any_step hall.out hh
      clear hr HR hall
      generalize gt m.E j = x at *
      have hbe := hbel.trans (((Below.refl wr.heap.size wr).alloc (Nat.le_refl _) (.cells #[.string x.key, .int .i64 x.window, .string x.part, .int .i64 x.first, .int .i64 x.last, .int .i64 x.rows, .int .i64 x.size, .int .u32 x.sum, .int .i64 x.born] 42)).mono hsz)
      cases hx : (x.key.toList == k.toList)
      · have HN2 := Lib.hid (HN.out hx)
        go_wp2
        go_roundw
        case rel => exact ⟨j + 1, by omega, by go_num, HN2, hbe⟩
        case measure => simp [intOf]; omega
      · have HV := Lib.hid (HS.out hx)
        go_wp2
        go_ret
        exact ⟨by rw [HV.out]; rfl, hbe⟩
    · obtain rfl : j = m.E.length := by omega
      have HV : Hid (ix (keyIs k) m.E = -1) := Lib.hid (by unfold ix; rw [fi_none hall.out, if_pos rfl])
      go_wp2
      go_ret
      exact ⟨by rw [HV.out]; rfl, hbel⟩
end Go.Proofs.YtjbmlhipjceeeaaGreat.Mf
