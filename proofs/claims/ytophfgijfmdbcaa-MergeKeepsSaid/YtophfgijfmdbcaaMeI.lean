/- The order of the reference, what may be put together, texts compared, plain entries, the chapter's example. -/
import Derived.Test.YtophfgijfmdbcaaProg
import Derived.Test.YtophfgijfmdbcaaMeH
namespace Go.Proofs.Ytophfgijfmdbcaa
open Go.RowKit Go.Proofs.Ytophfgijfmdbcaa.So

def entA (x : Ent) : Value := .agg #[.string x.key, .int .i64 x.window, .string x.part, .int .i64 x.first, .int .i64 x.last, .int .i64 x.rows, .int .i64 x.size, .int .u32 x.sum, .int .i64 x.born]

theorem cmpI0 {a b : Int} : cmpI a b = 0 ↔ a = b := by
  unfold cmpI
  split
  · omega
  · split <;> omega
theorem cmpIlt {a b : Int} : cmpI a b < 0 ↔ a < b := by
  unfold cmpI
  split
  · omega
  · split <;> omega
theorem cmpS0 {a b : ByteArray} : cmpS a b = 0 ↔ a = b := by
  unfold cmpS lessS
  cases h1 : Op.bytesLess a.toList b.toList
  · cases h2 : Op.bytesLess b.toList a.toList
    · have := less_tri h1 h2
      have hb := bytes_eqm a b
      rw [this, beq_self_eq_true] at hb
      simp [of_decide_eq_true hb.symm]
    · have := less_ne h2
      rw [bytes_eqm, decide_eq_false_iff_not] at this
      simp [this]
  · have := less_ne h1
    rw [bytes_eqm, decide_eq_false_iff_not] at this
    simp; rintro rfl; exact this rfl
theorem cmpSlt {a b : ByteArray} : cmpS a b < 0 ↔ Op.bytesLess a.toList b.toList = true := by
  unfold cmpS lessS
  cases h1 : Op.bytesLess a.toList b.toList
  · cases h2 : Op.bytesLess b.toList a.toList <;> simp
  · simp
theorem ltE (x y : Ent) : ltc cfE x y = if x.window = y.window then (if x.part = y.part then (if x.born = y.born then Op.bytesLess x.key.toList y.key.toList else decide (x.born < y.born)) else Op.bytesLess x.part.toList y.part.toList) else decide (x.window < y.window) := by
  unfold ltc
  have e : cfE x y = if cmpI x.window y.window = 0 then (if cmpS x.part y.part = 0 then (if cmpI x.born y.born = 0 then cmpS x.key y.key else cmpI x.born y.born) else cmpS x.part y.part) else cmpI x.window y.window := orI4 _ _ _ _
  rw [e]
  simp only [cmpI0, cmpS0]
  by_cases h1 : x.window = y.window
  · rw [if_pos h1, if_pos h1]
    by_cases h2 : x.part = y.part
    · rw [if_pos h2, if_pos h2]
      by_cases h3 : x.born = y.born
      · rw [if_pos h3, if_pos h3]
        rw [Bool.eq_iff_iff, decide_eq_true_iff]
        exact cmpSlt
      · rw [if_neg h3, if_neg h3]
        rw [Bool.eq_iff_iff, decide_eq_true_iff, decide_eq_true_iff]
        exact cmpIlt
    · rw [if_neg h2, if_neg h2]
      rw [Bool.eq_iff_iff, decide_eq_true_iff]
      exact cmpSlt
  · rw [if_neg h1, if_neg h1]
    rw [Bool.eq_iff_iff, decide_eq_true_iff, decide_eq_true_iff]
    exact cmpIlt

set_option maxRecDepth 100000 in
set_option maxHeartbeats 800000 in
theorem ahead_calls (x y : Ent) (w : World) : Calls Try.prog 35 #[entA x, entA y] w fun e w' => e = .returned (.bool (ltc cfE x y)) ∧ Below w.heap.size w w' := by
  unfold entA
  have HL := Lib.hid (ltE x y)
  by_cases h1 : x.window = y.window
  · have t1 : (x.window != y.window) = false := nef h1
    rw [if_pos h1] at HL
    clear h1
    by_cases h2 : x.part = y.part
    · have t2 : (x.part.toList == y.part.toList) = true := by rw [h2]; exact beq_self_eq_true _
      rw [if_pos h2] at HL
      clear h2
      by_cases h3 : x.born = y.born
      · have t3 : (x.born != y.born) = false := nef h3
        rw [if_pos h3] at HL
        clear h3
        go_enter Try.func35, Try.ntmps35
        go_wp2
        go_ret
        exact ⟨by rw [HL.out]; rfl, ((Below.refl _ _).alloc (Nat.le_refl _) _).alloc (by simp) _⟩
      · have t3 : (x.born != y.born) = true := net h3
        rw [if_neg h3] at HL
        clear h3
        go_enter Try.func35, Try.ntmps35
        go_wp2
        go_ret
        exact ⟨by rw [HL.out]; rfl, ((Below.refl _ _).alloc (Nat.le_refl _) _).alloc (by simp) _⟩
    · have t2 : (x.part.toList == y.part.toList) = false := by rw [bytes_eqm]; exact dcf h2
      rw [if_neg h2] at HL
      clear h2
      go_enter Try.func35, Try.ntmps35
      go_wp2
      go_ret
      exact ⟨by rw [HL.out]; rfl, ((Below.refl _ _).alloc (Nat.le_refl _) _).alloc (by simp) _⟩
  · have t1 : (x.window != y.window) = true := net h1
    rw [if_neg h1] at HL
    clear h1
    go_enter Try.func35, Try.ntmps35
    go_wp2
    go_ret
    exact ⟨by rw [HL.out]; rfl, ((Below.refl _ _).alloc (Nat.le_refl _) _).alloc (by simp) _⟩

def togP (small most : Int) (x y : Ent) : Prop := x.window = y.window ∧ x.part = y.part ∧ x.rows < small ∧ y.rows < small ∧ x.rows ≤ most ∧ y.rows ≤ most - x.rows
instance (small most : Int) (x y : Ent) : Decidable (togP small most x y) := by unfold togP; infer_instance
def togB (small most : Int) (x y : Ent) : Bool := decide (togP small most x y)

set_option maxRecDepth 100000 in
set_option maxHeartbeats 1600000 in
theorem together_calls (x y : Ent) (small most : Int) (hm0 : 0 ≤ most) (hm1 : most ≤ 1099511627776) (hx0 : 0 ≤ x.rows) (hx1 : x.rows ≤ 1099511627776) (w : World) :
    Calls Try.prog 14 #[entA x, entA y, .int .i64 small, .int .i64 most] w fun e w' => e = .returned (.bool (togB small most x y)) ∧ Below w.heap.size w w' := by
  unfold entA
  have hno : ¬ togP small most x y → togB small most x y = false := fun h => dcf h
  by_cases h1 : x.window = y.window
  · by_cases h2 : x.part = y.part
    · by_cases h3 : x.rows < small
      · by_cases h4 : y.rows < small
        · by_cases h5 : x.rows ≤ most
          · by_cases h6 : y.rows ≤ most - x.rows
            · have HL : Hid (togB small most x y = true) := Lib.hid (dct ⟨h1, h2, h3, h4, h5, h6⟩)
              have t1 : (x.window == y.window) = true := eqt h1
              have t2 : (x.part.toList == y.part.toList) = true := by rw [bytes_eqm]; exact dct h2
              have t3 : decide (x.rows < small) = true := dct h3
              have t4 : decide (y.rows < small) = true := dct h4
              have t5 : decide (x.rows ≤ most) = true := dct h5
              have t6 : decide (y.rows ≤ most - x.rows) = true := dct h6
              clear h1 h2 hno
              go_enter Try.func14, Try.ntmps14
              go_wp2
              go_ret
              exact ⟨by rw [HL.out]; rfl, ((Below.refl _ _).alloc (Nat.le_refl _) _).alloc (by simp) _⟩
            · have HL := Lib.hid (hno fun h => h6 h.2.2.2.2.2)
              have t1 : (x.window == y.window) = true := eqt h1
              have t2 : (x.part.toList == y.part.toList) = true := by rw [bytes_eqm]; exact dct h2
              have t3 : decide (x.rows < small) = true := dct h3
              have t4 : decide (y.rows < small) = true := dct h4
              have t5 : decide (x.rows ≤ most) = true := dct h5
              have t6 : decide (y.rows ≤ most - x.rows) = false := dcf h6
              clear h1 h2 hno
              go_enter Try.func14, Try.ntmps14
              go_wp2
              go_ret
              exact ⟨by rw [HL.out]; rfl, ((Below.refl _ _).alloc (Nat.le_refl _) _).alloc (by simp) _⟩
          · have HL := Lib.hid (hno fun h => h5 h.2.2.2.2.1)
            have t1 : (x.window == y.window) = true := eqt h1
            have t2 : (x.part.toList == y.part.toList) = true := by rw [bytes_eqm]; exact dct h2
            have t3 : decide (x.rows < small) = true := dct h3
            have t4 : decide (y.rows < small) = true := dct h4
            have t5 : decide (x.rows ≤ most) = false := dcf h5
            clear h1 h2 hno
            go_enter Try.func14, Try.ntmps14
            go_wp2
            go_ret
            exact ⟨by rw [HL.out]; rfl, ((Below.refl _ _).alloc (Nat.le_refl _) _).alloc (by simp) _⟩
        · have HL := Lib.hid (hno fun h => h4 h.2.2.2.1)
          have t1 : (x.window == y.window) = true := eqt h1
          have t2 : (x.part.toList == y.part.toList) = true := by rw [bytes_eqm]; exact dct h2
          have t3 : decide (x.rows < small) = true := dct h3
          have t4 : decide (y.rows < small) = false := dcf h4
          clear h1 h2 hno
          go_enter Try.func14, Try.ntmps14
          go_wp2
          go_ret
          exact ⟨by rw [HL.out]; rfl, ((Below.refl _ _).alloc (Nat.le_refl _) _).alloc (by simp) _⟩
      · have HL := Lib.hid (hno fun h => h3 h.2.2.1)
        have t1 : (x.window == y.window) = true := eqt h1
        have t2 : (x.part.toList == y.part.toList) = true := by rw [bytes_eqm]; exact dct h2
        have t3 : decide (x.rows < small) = false := dcf h3
        clear h1 h2 hno
        go_enter Try.func14, Try.ntmps14
        go_wp2
        go_ret
        exact ⟨by rw [HL.out]; rfl, ((Below.refl _ _).alloc (Nat.le_refl _) _).alloc (by simp) _⟩
    · have HL := Lib.hid (hno fun h => h2 h.2.1)
      have t1 : (x.window == y.window) = true := eqt h1
      have t2 : (x.part.toList == y.part.toList) = false := by rw [bytes_eqm]; exact dcf h2
      clear h1 h2 hno
      go_enter Try.func14, Try.ntmps14
      go_wp2
      go_ret
      exact ⟨by rw [HL.out]; rfl, ((Below.refl _ _).alloc (Nat.le_refl _) _).alloc (by simp) _⟩
  · have HL := Lib.hid (hno fun h => h1 h.1)
    have t1 : (x.window == y.window) = false := eqf h1
    clear h1 hno
    go_enter Try.func14, Try.ntmps14
    go_wp2
    go_ret
    exact ⟨by rw [HL.out]; rfl, ((Below.refl _ _).alloc (Nat.le_refl _) _).alloc (by simp) _⟩

/-- A slice of texts reads. -/
def Strs (w : World) (B : Nat) (A : Option Addr) (l : List ByteArray) : Prop := Reads w B 1 A l.length (l.map .string)
def strAt (l : List ByteArray) (i : Nat) : ByteArray := l.getD i ByteArray.empty
theorem Strs.below {w w' : World} {B : Nat} {A : Option Addr} {l : List ByteArray} (h : Strs w B A l) (hb : Below B w w') : Strs w' B A l := Reads.below h hb
theorem Strs.cellAt {w : World} {B : Nat} {A : Option Addr} {l : List ByteArray} (h : Strs w B A l) (hp : 0 < l.length) : ∃ b off, A = some ⟨b, off, none⟩ ∧ b < B ∧ ∀ j, j < l.length → w.cell? ⟨b, off + j, none⟩ = some (.string (strAt l j)) := by
  obtain ⟨b, off, e, hb, hc⟩ := h.2 hp
  refine ⟨b, off, e, hb, fun j hj => hc _ _ ?_⟩
  rw [List.getElem?_map, List.getElem?_eq_getElem hj]
  simp [strAt, List.getD, List.getElem?_eq_getElem hj]

set_option maxRecDepth 100000 in
theorem sameTexts_same (w : World) {B B2 c c2 : Nat} {A A2 : Option Addr} {l : List ByteArray} (h : Strs w B A l) (h2 : Strs w B2 A2 l) (hB : B ≤ w.heap.size) (hB2 : B2 ≤ w.heap.size) (hn : l.length ≤ 4398046511104) :
    Calls Try.prog 12 #[.slice A l.length c, .slice A2 l.length c2] w fun e w' => e = .returned (.bool true) ∧ Below w.heap.size w w' := by
  go_enter Try.func12, Try.ntmps12
  go_wp2
  go_loopw [13] (fun i wr => ∃ k : Nat, k ≤ l.length ∧ i = .int .i64 (k : Int) ∧ Below w.heap.size w wr) (fun i _ => l.length - (intOf i).toNat)
  case atStart => exact ⟨0, Nat.zero_le _, rfl, Below.refl _ _⟩
  case round =>
    obtain ⟨k, hk, rfl, hbel⟩ := hrel
    by_cases hlt : k < l.length
    · obtain ⟨b, off, rfl, hbB, hcell⟩ := (h.below (hbel.mono hB)).cellAt (by omega)
      obtain ⟨b2, off2, rfl, hbB2, hcell2⟩ := (h2.below (hbel.mono hB2)).cellAt (by omega)
      have y := hcell k hlt
      have y2 := hcell2 k hlt
      have q : ((strAt l k).toList == (strAt l k).toList) = true := beq_self_eq_true _
      generalize strAt l k = x at *
      clear hcell hcell2
      go_wp2
      go_quiet (fail)
      go_wp2
      go_roundw
      case rel => exact ⟨k + 1, by omega, by go_num, below_drewN_ hbel _⟩
      case measure => simp [intOf]; omega
    · obtain rfl : k = l.length := by omega
      go_wp2
      go_ret
      exact ⟨rfl, hbel⟩
end Go.Proofs.Ytophfgijfmdbcaa
