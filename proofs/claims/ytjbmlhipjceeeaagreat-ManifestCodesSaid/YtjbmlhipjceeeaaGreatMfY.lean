/- Plain laws of an edit that is made: what holds behind it; two edits in either order (chapter 13). -/
import Derived.Test.YtjbmlhipjceeeaaGreatProg
import Derived.Test.YtjbmlhipjceeeaaGreatMfX
namespace Go.Proofs.YtjbmlhipjceeeaaGreat.Mf
set_option linter.unusedVariables false
set_option linter.unusedSimpArgs false
open Go.RowKit Go.Proofs.YtjbmlhipjceeeaaGreat

theorem appE_zero {m : Md} {d : Ed} : appE m d = 0 ↔ Fine m d ∧ (ents m d).length ≤ 256 := by
  unfold appE
  constructor
  · intro h
    by_cases h0 : refE m d = 0
    · rw [if_neg (by rw [h0]; decide)] at h
      refine ⟨refE_fine.1 h0, ?_⟩
      by_cases h1 : 256 < (ents m d).length
      · rw [if_pos h1] at h; cases h
      · omega
    · rw [if_pos h0] at h
      exact absurd h h0
  · rintro ⟨h, hl⟩
    rw [if_neg (by rw [refE_fine.2 h]; decide), if_neg (by omega)]
theorem appM_ok {m : Md} {d : Ed} (h : appE m d = 0) : appM m d = appl m d := if_pos h
theorem appM_no {m : Md} {d : Ed} (h : appE m d ≠ 0) : appM m d = zeroM := if_neg h
theorem maxI_l (a b : Int) : a ≤ maxI a b := by unfold maxI; split <;> omega
theorem maxI_r (a b : Int) : b ≤ maxI a b := by unfold maxI; split <;> omega
theorem maxI_lt {a b c : Int} (h : a < c) (h' : b < c) : maxI a b < c := by unfold maxI; split <;> omega
theorem maxI_ge {a b c : Int} (h : c ≤ a ∨ c ≤ b) : c ≤ maxI a b := by unfold maxI; split <;> omega
theorem maxI_comm (a b : Int) : maxI a b = maxI b a := by unfold maxI; split <;> split <;> omega
theorem maxI_left_comm (a b c : Int) : maxI (maxI a b) c = maxI (maxI a c) b := by unfold maxI; (repeat' split) <;> omega

/-! ### what is known of a fine edit -/
structure FineF (m : Md) (d : Ed) : Prop where
  r : RightF m
  e : EditF d
  exi : ∀ x ∈ d.add, ∀ y ∈ m.E, y.key = x.key → y.key ∈ d.drop
  lost : ∀ k ∈ d.drop, ∃ x ∈ m.E, x.key = k
  fen : ∀ x ∈ d.add, m.fence ≤ x.born ∧ d.fence ≤ x.born
  dup : ∀ x ∈ d.marks, seqL x.maker m.M < x.seq
  ver : ∀ x ∈ m.O, ver1 d x = false
  gen : m.gen ≠ 1099511627775
theorem Fine.f {m : Md} {d : Ed} (h : Fine m d) : FineF m d where
  r := right_f h.right
  e := edit_f h.edit
  exi := fun x hx y hy e => by
    have h1 := List.any_eq_false.1 h.exi x hx
    unfold exi1 at h1
    simp only [Bool.and_eq_true, hasK_iff, Bool.not_eq_true', not_and, Bool.not_eq_false] at h1
    rw [e]
    exact has_mem.1 (h1 ⟨y, hy, e⟩)
  lost := fun k hk => by
    have h1 := List.any_eq_false.1 h.lost k hk
    unfold lost1 at h1
    simp only [Bool.not_eq_true', Bool.not_eq_false] at h1
    exact hasK_iff.1 h1
  fen := fun x hx => by
    have h1 := List.any_eq_false.1 h.fen x hx
    unfold fen1 at h1
    simp only [Bool.or_eq_true, decide_eq_true_eq, not_or] at h1
    omega
  dup := fun x hx => by
    have h1 := List.any_eq_false.1 h.dup x hx
    unfold dup1 at h1
    simp only [decide_eq_true_eq] at h1
    omega
  ver := fun x hx => by
    have h1 := List.any_eq_false.1 h.ver x hx
    simpa using h1
  gen := h.gen
theorem FineF.fine {m : Md} {d : Ed} (h : FineF m d) : Fine m d where
  right := right_iff.2 h.r
  edit := edit_iff.2 h.e
  exi := List.any_eq_false.2 fun x hx => by
    unfold exi1
    simp only [Bool.and_eq_true, hasK_iff, Bool.not_eq_true', not_and, Bool.not_eq_false]
    rintro ⟨y, hy, e⟩
    exact has_mem.2 (by rw [← e]; exact h.exi x hx y hy e)
  lost := List.any_eq_false.2 fun k hk => by
    unfold lost1
    simp only [Bool.not_eq_true', Bool.not_eq_false]
    exact hasK_iff.2 (h.lost k hk)
  fen := List.any_eq_false.2 fun x hx => by
    unfold fen1
    have := h.fen x hx
    simp only [Bool.or_eq_true, decide_eq_true_eq, not_or]
    omega
  dup := List.any_eq_false.2 fun x hx => by
    unfold dup1
    have := h.dup x hx
    simp only [decide_eq_true_eq]
    omega
  ver := List.any_eq_false.2 fun x hx => by rw [h.ver x hx]; decide
  gen := h.gen
theorem en_in {x : En} (h : enB x = true) : x.key.size ≤ 40 ∧ 1 ≤ x.key.size := by
  unfold enB keyB at h
  simp only [Bool.and_eq_true, decide_eq_true_eq] at h
  have h2 : KeyP x.key := h.1.1.1.1.1.1.1.1.1.2
  exact ⟨h2.2.1, h2.1⟩
theorem en_ok {x : En} (h : enB x = true) : x.key.size ≤ maxLen := Nat.le_trans (en_in h).1 (by unfold maxLen; omega)
theorem FineF.srt {m : Md} {d : Ed} (h : FineF m d) : (ents m d).Pairwise fun a b => ltE a b = true :=
  ents_srt h.r.srtE h.e.ndA (fun x hx y hy hk e => hk (h.exi x hx y hy e)) (fun x hx => en_ok (h.r.enE x hx)) (fun x hx => en_ok (h.e.enA x hx))
theorem srt_key {l : List En} (h : l.Pairwise fun a b => ltE a b = true) {x y : En} (hx : x ∈ l) (hy : y ∈ l) (e : x.key = y.key) : x = y := by
  obtain ⟨i, hi, rfl⟩ := List.getElem_of_mem hx
  obtain ⟨j, hj, rfl⟩ := List.getElem_of_mem hy
  rw [List.pairwise_iff_getElem] at h
  have key : ∀ a b : En, a.key = b.key → ltE a b = true → False := fun a b e' h' => by
    unfold ltE at h'
    rw [e', ltS_irr] at h'
    cases h'
  rcases Nat.lt_trichotomy i j with c | c | c
  · exact (key _ _ e (h i j hi hj c)).elim
  · subst c; rfl
  · exact (key _ _ e.symm (h j i hj hi c)).elim
theorem nd_key {l : List En} (h : (keys l).Nodup) {x y : En} (hx : x ∈ l) (hy : y ∈ l) (e : x.key = y.key) : x = y := by
  obtain ⟨i, hi, rfl⟩ := mem_gt hx
  obtain ⟨j, hj, rfl⟩ := mem_gt hy
  rcases Nat.lt_trichotomy i j with c | c | c
  · exact absurd h (nd_no (key := En.key) hj c e)
  · subst c; rfl
  · exact absurd h (nd_no (key := En.key) hi c e.symm)
theorem FineF.rises {m : Md} {d : Ed} (h : FineF m d) : d.marks.Pairwise fun x y => x.maker = y.maker → x.seq < y.seq := by
  refine h.e.srtP.imp_of_mem fun {x y} hx hy hxy e => ?_
  rw [ltP_mk (h.e.mkA x hx) (h.e.mkA y hy)] at hxy
  simp only [Bool.or_eq_true, Bool.and_eq_true, decide_eq_true_eq] at hxy
  omega
theorem FineF.seq {m : Md} {d : Ed} (h : FineF m d) (k : Int) : seqL k (mrks m d) = bestM k d.marks (seqL k m.M) := by
  unfold mrks
  rw [seq_putMs]
  exact last_best h.rises fun x hx e => by rw [← e]; exact h.dup x hx
theorem FineF.right {m : Md} {d : Ed} (h : FineF m d) (hl : (ents m d).length ≤ 256) : RightF (appl m d) where
  gen := by have := h.r.gen; have := h.gen; show 0 ≤ m.gen + 1 ∧ m.gen + 1 < _; omega
  cut := ⟨Int.le_trans h.r.cut.1 (maxI_l _ _), maxI_lt h.r.cut.2 h.e.cut.2⟩
  fence := ⟨Int.le_trans h.r.fence.1 (maxI_l _ _), maxI_lt h.r.fence.2 h.e.fence.2⟩
  lenE := hl
  low := fun x hx => (ents_mem.1 hx).2
  enE := fun x hx => by
    rcases (ents_mem.1 hx).1 with h1 | h1
    · exact h.e.enA x h1
    · exact h.r.enE x h1.1
  srtE := h.srt
  mkM := fun x hx => by
    rcases putMs_mem d.marks h.r.srtM hx with h1 | h1
    · exact h.e.mkA x h1
    · exact h.r.mkM x h1
  srtM := putMs_srt d.marks h.r.srtM
  owO := fun x hx => by
    rcases (putL_mem h.r.srtO).1 hx with rfl | h1
    · exact h.e.ow
    · exact h.r.owO x h1.1
  srtO := putL_srt h.r.srtO

/-! ### Rises -/
theorem rise_did {m : Md} {d : Ed} (h : FineF m d) : (appl m d).O.any (didB d.by_) = true :=
  List.any_eq_true.2 ⟨d.by_, (putL_mem h.r.srtO).2 (.inl rfl), by unfold didB; simp⟩
theorem rise_mark {m : Md} {d : Ed} (h : FineF m d) {k : Mk} (hk : k ∈ m.M) : k.seq ≤ seqL k.maker (appl m d).M := by
  show _ ≤ seqL k.maker (mrks m d)
  rw [h.seq, mem_seq h.r.srtM hk]
  exact best_ge _ _
theorem find_mem {l : List En} {k : ByteArray} {y : En} (h : l.find? (keyIs k) = some y) : y ∈ l ∧ y.key = k := ⟨List.mem_of_find?_eq_some h, keyIs_iff.1 (List.find?_some h)⟩
theorem find_none {l : List En} {k : ByteArray} (h : l.find? (keyIs k) = none) : ∀ y ∈ l, y.key ≠ k := fun y hy e => by
  have := List.find?_eq_none.1 h y hy
  exact this (keyIs_iff.2 e)
theorem rise_find {m : Md} {d : Ed} (h : FineF m d) {a : En} (ha : a ∈ d.add) : (appl m d).E.find? (keyIs a.key) = if cutOf m d ≤ a.window then some a else none := by
  show (ents m d).find? (keyIs a.key) = _
  cases hf : (ents m d).find? (keyIs a.key) with
  | none =>
    rw [if_neg]
    intro hw
    exact find_none hf a (ents_mem.2 ⟨.inl ha, hw⟩) rfl
  | some y =>
    obtain ⟨hy, he⟩ := find_mem hf
    have hya : y = a := by
      rcases (ents_mem.1 hy).1 with h1 | h1
      · exact nd_key h.e.ndA h1 ha he
      · exact absurd (h.exi a ha y h1.1 he) h1.2
    subst hya
    rw [if_pos (ents_mem.1 hy).2]
theorem rise_fence {m : Md} {d : Ed} (h : FineF m d) {a : En} (ha : a ∈ d.add) : fenOf m d ≤ a.born := by
  have := h.fen a ha
  show maxI m.fence d.fence ≤ _
  unfold maxI; split <;> omega
theorem rise_again {m : Md} {d : Ed} (h : FineF m d) (hl : (ents m d).length ≤ 256) : appE (appl m d) d = 8 := by
  have h1 : rightB (appl m d) = true := right_iff.2 (h.right hl)
  have h2 : verB (appl m d) d = true := List.any_eq_true.2 ⟨d.by_, (putL_mem h.r.srtO).2 (.inl rfl), by unfold ver1; simp⟩
  refine appE_ref ?_ (by decide)
  unfold refE
  rw [h1, edit_iff.2 h.e, h2]
  rfl
end Go.Proofs.YtjbmlhipjceeeaaGreat.Mf
