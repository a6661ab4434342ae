/- Contracts of the cursor of nums (chapter 1). -/
import Derived.Test.YtmbnbeihgggkcaaNumV
namespace Go.Proofs.Ytmbnbeihgggkcaa
open Go.RowKit

/-- Block g is a cursor (of type t) over the bytes l (which lie below block B), at place k, with error e. -/
def Cur (t : TypeId) (w : World) (g B : Nat) (l : List UInt8) (k e : Nat) : Prop :=
  ∃ A c, Blk w g t #[.slice A l.length c, .int .i64 (k : Int), .int .i64 (e : Int)] ∧ l.length ≤ c ∧ c ≤ maxLen ∧ (Bytes w B A l.length l ∧ B ≤ g) ∧ k ≤ l.length

theorem Cur.drewN {t : TypeId} {w : World} {g B : Nat} {l : List UInt8} {k e : Nat} (h : Cur t w g B l k e) (n : Nat) : Cur t (w.drewN n) g B l k e := h
theorem Cur.lt {t : TypeId} {w : World} {g B : Nat} {l : List UInt8} {k e : Nat} (h : Cur t w g B l k e) : g < w.heap.size := by
  obtain ⟨A, c, hb, -⟩ := h
  exact hb.lt
theorem Cur.bd {t : TypeId} {w : World} {g B : Nat} {l : List UInt8} {k e : Nat} (h : Cur t w g B l k e) : B ≤ g := by
  obtain ⟨A, c, hb, -, -, h1, -⟩ := h
  exact h1.2
theorem Cur.far {t : TypeId} {w w' : World} {g g' B : Nat} {l : List UInt8} {k e : Nat} (h : Cur t w g B l k e) (ho : Only g' w w') (hne : g ≠ g') (hB : B ≤ g') : Cur t w' g B l k e := by
  have hlt := h.lt
  obtain ⟨A, c, hb, hc, hm, ⟨hby, hBg⟩, hk⟩ := h
  exact ⟨A, c, ho.blk hb hne, hc, hm, ⟨hby.only ho hB (by omega), hBg⟩, hk⟩
theorem Cur.below {t : TypeId} {w w' : World} {g B : Nat} {l : List UInt8} {k e : Nat} (h : Cur t w g B l k e) (hb : Below w.heap.size w w') : Cur t w' g B l k e := by
  have hlt := h.lt
  obtain ⟨A, c, hbk, hc, hm, ⟨hby, hBg⟩, hk⟩ := h
  exact ⟨A, c, hbk.below hb hlt, hc, hm, ⟨hby.below (hb.mono (by omega)), hBg⟩, hk⟩

def curU (l : List UInt8) (k e : Nat) : Nat × Nat × Nat := if e ≠ 0 then (0, k, e) else ((readU l k).1, k + (readU l k).2.1, (readU l k).2.2)

theorem readU_fits (l : List UInt8) (k : Nat) (hk : k ≤ l.length) : k + (readU l k).2.1 ≤ l.length := by
  unfold readU
  split
  · simpa using hk
  · have := (readAt_max (l.drop (k : Int).toNat)).2.2
    simp only [Int.toNat_natCast, List.length_drop] at *
    omega

/-- A method's end: the value, the cursor's new state, and that nothing else has turned. -/
def CurRet (t : TypeId) (w : World) (g B : Nat) (l : List UInt8) (v : Value) (k e : Nat) (en : Ending) (w' : World) : Prop := en = .returned v ∧ Cur t w' g B l k e ∧ Only g w w'

theorem over_calls (w : World) {g B k e : Nat} {l : List UInt8} (h : Cur 59 w g B l k e) :
    Calls Try.prog 37 #[.pointer (some ⟨g, 0, none⟩)] w fun en w' => en = .returned (.bool (decide (e ≠ 0))) ∧ w = w' := by
  obtain ⟨A, c, hb, -⟩ := h
  have c2 := hb.cell 2
  clear hb
  by_cases he : e = 0
  · subst he
    go_enter Try.func37, Try.ntmps37
    go_wp2
    go_ret
    exact ⟨rfl, rfl⟩
  · have q : ((e : Int) != 0) = true := net (by omega)
    go_enter Try.func37, Try.ntmps37
    go_wp2
    go_ret
    exact ⟨by simp [he], rfl⟩

theorem over_nil (w : World) :
    Calls Try.prog 37 #[.pointer none] w fun en w' => en = .returned (.bool true) ∧ w = w' := by
  go_enter Try.func37, Try.ntmps37
  go_wp2
  go_ret
  exact ⟨rfl, rfl⟩

set_option maxRecDepth 100000 in
set_option maxHeartbeats 400000 in
theorem curU_calls (w : World) {g B k e : Nat} {l : List UInt8} (h : Cur 59 w g B l k e) (hl : l.length ≤ 1000000000000000) :
    Calls Try.prog 24 #[.pointer (some ⟨g, 0, none⟩)] w (CurRet 59 w g B l (.int .u64 ((curU l k e).1 : Nat)) (curU l k e).2.1 (curU l k e).2.2) := by
  have hov := over_calls w h
  unfold curU
  by_cases he : e = 0
  · subst he
    rw [if_neg (by omega)]
    have hf := readU_fits l k h.choose_spec.choose_spec.2.2.2.2
    obtain ⟨A, c, hb, hc, hm, ⟨hby, hBg⟩, hk⟩ := h
    have c0 := hb.cell 0
    have c1 := hb.cell 1
    have c2 := hb.cell 2
    have f1 := hb.frozen 1
    have f2 := hb.frozen 2
    simp only [List.getElem?_toArray, List.getElem?_cons_zero, List.getElem?_cons_succ] at c0 c1 c2
    have Hov := Lib.hid hov; clear hov
    go_enter Try.func24, Try.ntmps24
    go_wp2_with fail
    refine Hov.out.mono ?_
    rintro en w' ⟨rfl, rfl⟩
    go_wp2_with fail
    go_region_held3 (fun w' => w'.cell? ⟨g, 0, none⟩ = some (.slice A l.length c) ∧ w'.cell? ⟨g, 1, none⟩ = some (.int .i64 (k : Int))) (go_keep) ((go_at_call 20; refine (u_calls _ hby.drew k hc (by omega)).mono ?_; rintro en w1 ⟨rfl, rfl⟩))
    generalize readU l (k : Int) = r at *
    obtain ⟨x, j, e⟩ := r
    simp only at hf
    have hg := hb.lt
    go_wp2
    go_ret
    refine ⟨rfl, ⟨A, c, ?_, hc, hm, ⟨hby.only (((Only.refl g w).drew.setCell (.inl rfl) _).setCell (.inl rfl) _) hBg (by omega), hBg⟩, hf⟩, ((Only.refl g w).drew.setCell (.inl rfl) _).setCell (.inl rfl) _⟩
    rw [Int.natCast_add]
    exact (hb.drew.set_ 1 _).set_ 2 _
  · rw [if_pos he]
    rw [decide_eq_true he] at hov
    have Hov := Lib.hid hov; clear hov he
    go_enter Try.func24, Try.ntmps24
    go_wp2_with fail
    refine Hov.out.mono ?_
    rintro en w' ⟨rfl, rfl⟩
    go_wp2
    go_ret
    exact ⟨rfl, h, Only.refl g _⟩

theorem fail_calls (w : World) {g B k e : Nat} {l : List UInt8} (h : Cur 59 w g B l k e) (k' e' : Nat) (hk : k' ≤ l.length) :
    Calls Try.prog 38 #[.pointer (some ⟨g, 0, none⟩), .int .i64 (k' : Int), .int .i64 (e' : Int)] w (CurRet 59 w g B l (.tuple #[]) k' e') := by
  obtain ⟨A, c, hb, hc, hm, ⟨hby, hBg⟩, -⟩ := h
  have c1 := hb.cell 1
  have c2 := hb.cell 2
  have f1 := hb.frozen 1
  have f2 := hb.frozen 2
  have hg := hb.lt
  simp only [List.getElem?_toArray, List.getElem?_cons_zero, List.getElem?_cons_succ] at c1 c2
  go_enter Try.func38, Try.ntmps38
  go_wp2
  go_end0
  exact ⟨rfl, ⟨A, c, (hb.set_ 1 _).set_ 2 _, hc, hm, ⟨hby.only (((Only.refl g w).setCell (.inl rfl) _).setCell (.inl rfl) _) hBg (by omega), hBg⟩, hk⟩, ((Only.refl g w).setCell (.inl rfl) _).setCell (.inl rfl) _⟩

theorem curU_nil (w : World) :
    Calls Try.prog 24 #[.pointer none] w fun en w' => en = .returned (.int .u64 0) ∧ w = w' := by
  go_enter Try.func24, Try.ntmps24
  go_wp2_with fail
  refine (over_nil w).mono ?_
  rintro en w' ⟨rfl, rfl⟩
  go_wp2
  go_ret
  exact ⟨rfl, rfl⟩

theorem curU_max (l : List UInt8) (k e : Nat) : (curU l k e).1 ≤ 18446744073709551615 := by
  unfold curU; split
  · simp
  · exact (readU_max l k).1

theorem curI_calls (w : World) {g B k e : Nat} {l : List UInt8} (h : Cur 59 w g B l k e) (hl : l.length ≤ 1000000000000000) :
    Calls Try.prog 28 #[.pointer (some ⟨g, 0, none⟩)] w (CurRet 59 w g B l (.int .i64 (zagI (curU l k e).1)) (curU l k e).2.1 (curU l k e).2.2) := by
  have Hm := Lib.hid (curU_max l k e)
  go_enter Try.func28, Try.ntmps28
  go_wp2_with fail
  refine (curU_calls w h hl).mono ?_
  rintro en w1 ⟨rfl, h1, ho⟩
  go_wp2_with fail
  refine (zag_calls _ w1 Hm.out).mono ?_
  rintro en w' ⟨rfl, rfl⟩
  go_wp2
  go_ret
  exact ⟨rfl, h1, ho⟩

theorem at_calls (w : World) {g B k e : Nat} {l : List UInt8} (h : Cur 59 w g B l k e) :
    Calls Try.prog 26 #[.pointer (some ⟨g, 0, none⟩)] w fun en w' => en = .returned (.int .i64 (k : Int)) ∧ w = w' := by
  obtain ⟨A, c, hb, -⟩ := h
  have c1 := hb.cell 1
  clear hb
  simp only [List.getElem?_toArray, List.getElem?_cons_zero, List.getElem?_cons_succ] at c1
  go_enter Try.func26, Try.ntmps26
  go_wp2
  go_ret
  exact ⟨rfl, rfl⟩
theorem at_nil (w : World) :
    Calls Try.prog 26 #[.pointer none] w fun en w' => en = .returned (.int .i64 0) ∧ w = w' := by
  go_enter Try.func26, Try.ntmps26
  go_wp2
  go_ret
  exact ⟨rfl, rfl⟩

def curEnd (l : List UInt8) (k e : Nat) : Nat := if e ≠ 0 then e else if k < l.length then 5 else 0
set_option maxRecDepth 100000 in
theorem end_calls (w : World) {g B k e : Nat} {l : List UInt8} (h : Cur 59 w g B l k e) :
    Calls Try.prog 25 #[.pointer (some ⟨g, 0, none⟩)] w fun en w' => en = .returned (.int .i64 (curEnd l k e : Nat)) ∧ ∃ n, w' = w.drewN n := by
  obtain ⟨A, c, hb, -⟩ := h
  have c0 := hb.cell 0
  have c1 := hb.cell 1
  have c2 := hb.cell 2
  clear hb
  simp only [List.getElem?_toArray, List.getElem?_cons_zero, List.getElem?_cons_succ] at c0 c1 c2
  unfold curEnd
  by_cases he : e = 0
  · subst he
    rw [if_neg (by omega)]
    by_cases hk : k < l.length
    · rw [if_pos hk]
      go_enter Try.func25, Try.ntmps25
      go_wp2_with fail
      go_region_held3 (fun w' => w'.cell? ⟨g, 0, none⟩ = some (.slice A l.length c) ∧ w'.cell? ⟨g, 1, none⟩ = some (.int .i64 (k : Int))) (go_keep) (fail)
      go_wp2
      go_ret
      exact ⟨rfl, 1, rfl⟩
    · rw [if_neg hk]
      go_enter Try.func25, Try.ntmps25
      go_wp2_with fail
      go_region_held3 (fun w' => w'.cell? ⟨g, 0, none⟩ = some (.slice A l.length c) ∧ w'.cell? ⟨g, 1, none⟩ = some (.int .i64 (k : Int))) (go_keep) (fail)
      go_wp2
      go_ret
      exact ⟨rfl, 1, rfl⟩
  · have q : ((e : Int) != 0) = true := net (by omega)
    rw [if_pos he]
    clear he
    go_enter Try.func25, Try.ntmps25
    go_wp2
    go_ret
    exact ⟨rfl, 0, rfl⟩
theorem end_nil (w : World) :
    Calls Try.prog 25 #[.pointer none] w fun en w' => en = .returned (.int .i64 1) ∧ w = w' := by
  go_enter Try.func25, Try.ntmps25
  go_wp2
  go_ret
  exact ⟨rfl, rfl⟩

theorem curEnd_2' {l : List UInt8} {k : Nat} (h : ¬ k < l.length) : curEnd l k 0 = 0 := by unfold curEnd; rw [if_neg (by omega), if_neg h]

/-- New: a cursor over a copy of the bytes, in new memory. -/
theorem new_full (w : World) {B : Nat} {A : Option Addr} {n c : Nat} {l : List UInt8} (h : Bytes w B A n l) (hB : B ≤ w.heap.size) (hn : n ≤ 140737488355328) :
    Calls Try.prog 23 #[.slice A n c] w fun en w' => ∃ g A' c', en = .returned (.pointer (some ⟨g, 0, none⟩)) ∧ Blk w' g 59 #[.slice A' l.length c', .int .i64 0, .int .i64 0] ∧ l.length ≤ c' ∧ c' ≤ maxLen ∧
      w'.ownsRow w.heap.size 5 1 (.slice A' l.length c') l.length (l.map byteV) ∧ Bytes w' g A' l.length l ∧ Below w.heap.size w w' ∧ w.heap.size ≤ g := by
  have hl := h.1
  subst hl
  go_enter Try.func23, Try.ntmps23
  go_wp2_with (at_builtin; go_must (refine wpList_append_sl _ rfl (.tmp 3) (.tmp 4) _ rfl w.heap.size 5 _ 1 1 Try.underlying23 Try.infoU8 rfl (by omega) _ _ _ rfl (World.ownsRow_made w #[] 0 (Nat.le_refl _) (Nat.zero_le _) rfl) B A l.length c (l.map byteV) rfl (h.to ((Below.refl B w).alloc hB _) (Nat.le_refl _)).2 (byteV_one l) (by unfold maxLen; omega) (by omega) (by simp) ?_))
  intro A1 c1 w1 hc1 hm1 hr hbel hown _ _
  have hb1 : Below w.heap.size w w1 := ((Below.refl _ _).alloc (Nat.le_refl _) _).trans hbel
  have Hown := Lib.hid hown
  clear hown
  go_wp2
  go_ret
  have hr2 : Bytes (w1.alloc (.cells #[.slice A1 l.length c1, .int .i64 0, .int .i64 0] 59)) w1.heap.size A1 l.length l := Bytes.of ((hr.alloc (Nat.le_refl _) _))
  have hown2 := Hown.out.alloc (.cells #[.slice A1 l.length c1, .int .i64 0, .int .i64 0] 59)
  exact ⟨w1.heap.size, A1, c1, rfl, Blk.new _ _ _, hc1, hm1, hown2, hr2, hb1.alloc hb1.size _, hb1.size⟩
theorem new_calls (w : World) {B : Nat} {A : Option Addr} {n c : Nat} {l : List UInt8} (h : Bytes w B A n l) (hB : B ≤ w.heap.size) (hn : n ≤ 140737488355328) :
    Calls Try.prog 23 #[.slice A n c] w fun en w' => ∃ g, en = .returned (.pointer (some ⟨g, 0, none⟩)) ∧ Cur 59 w' g g l 0 0 ∧ Below w.heap.size w w' ∧ w.heap.size ≤ g :=
  (new_full w h hB hn).mono fun _ _ ⟨g, A', c', he, hb, hc, hm, _, hby, hbel, hg⟩ => ⟨g, he, ⟨A', c', hb, hc, hm, ⟨hby, Nat.le_refl _⟩, Nat.zero_le _⟩, hbel, hg⟩
end Go.Proofs.Ytmbnbeihgggkcaa
