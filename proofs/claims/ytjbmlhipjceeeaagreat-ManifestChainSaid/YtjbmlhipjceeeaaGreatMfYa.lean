/- Plain law: two edits by unlike agents, in either order (chapter 13). -/
import Derived.Test.YtjbmlhipjceeeaaGreatProg
import Derived.Test.YtjbmlhipjceeeaaGreatMfY
namespace Go.Proofs.YtjbmlhipjceeeaaGreat.Mf
set_option linter.unusedVariables false
set_option linter.unusedSimpArgs false
open Go.RowKit Go.Proofs.YtjbmlhipjceeeaaGreat

theorem best_step (k : Int) (x : Mk) : ∀ (a : List Mk) (s : Int), bestM k a (if x.maker = k then maxI s x.seq else s) = if x.maker = k then maxI (bestM k a s) x.seq else bestM k a s
  | [], s => rfl
  | y :: a, s => by
    show bestM k a (if y.maker = k then maxI (if x.maker = k then maxI s x.seq else s) y.seq else (if x.maker = k then maxI s x.seq else s)) = if x.maker = k then maxI (bestM k a (if y.maker = k then maxI s y.seq else s)) x.seq else bestM k a (if y.maker = k then maxI s y.seq else s)
    rw [← best_step k x a]
    congr 1
    by_cases h1 : x.maker = k <;> by_cases h2 : y.maker = k
    · simp only [if_pos h1, if_pos h2]; exact maxI_left_comm _ _ _
    · simp only [if_pos h1, if_neg h2]
    · simp only [if_neg h1, if_pos h2]
    · simp only [if_neg h1, if_neg h2]
theorem best_comm (k : Int) (a : List Mk) : ∀ (b : List Mk) (s : Int), bestM k a (bestM k b s) = bestM k b (bestM k a s)
  | [], s => rfl
  | x :: b, s => by
    show bestM k a (bestM k b (if x.maker = k then maxI s x.seq else s)) = bestM k b (if x.maker = k then maxI (bestM k a s) x.seq else bestM k a s)
    rw [best_comm k a b, best_step]
theorem marks_eq {l l' : List Mk} (hs : Srt Mk.maker l) (hs' : Srt Mk.maker l') (hl : ∀ x ∈ l, mkB x = true) (hl' : ∀ x ∈ l', mkB x = true) (h : ∀ k, seqL k l = seqL k l') : l = l' := by
  refine srt_eq ltM_irr ltM_trans (ltM_srt.2 hs) (ltM_srt.2 hs') fun z => ?_
  constructor
  · intro hz
    have h1 := mem_seq hs hz
    have h2 := (mk_in (hl z hz)).2
    rw [h] at h1
    have := seq_mem (k := z.maker) (l := l') (by omega)
    rw [h1] at this
    exact this
  · intro hz
    have h1 := mem_seq hs' hz
    have h2 := (mk_in (hl' z hz)).2
    rw [← h] at h1
    have := seq_mem (k := z.maker) (l := l) (by omega)
    rw [h1] at this
    exact this
theorem swap_drop {m : Md} {d o : Ed} (hk : ∀ x ∈ d.add, ∀ y ∈ o.add, x.key ≠ y.key) (h3 : FineF (appl m d) o) (h4 : FineF (appl m o) d) : ∀ k ∈ d.drop, k ∉ o.drop := by
  intro k hd ho
  obtain ⟨y, hy, ey⟩ := h3.lost k ho
  obtain ⟨z, hz, ez⟩ := h4.lost k hd
  have hy2 : y ∈ d.add := by
    rcases (ents_mem.1 hy).1 with h | h
    · exact h
    · exact absurd hd (by rw [← ey]; exact h.2)
  have hz2 : z ∈ o.add := by
    rcases (ents_mem.1 hz).1 with h | h
    · exact h
    · exact absurd ho (by rw [← ez]; exact h.2)
  exact hk y hy2 z hz2 (ey.trans ez.symm)
theorem swap_add {m : Md} {d o : Ed} (hk : ∀ x ∈ d.add, ∀ y ∈ o.add, x.key ≠ y.key) (h1 : FineF m d) (h2 : FineF m o) (h3 : FineF (appl m d) o) (h4 : FineF (appl m o) d) : ∀ x ∈ d.add, x.key ∉ o.drop := by
  intro x hx ho
  obtain ⟨y, hy, ey⟩ := h2.lost _ ho
  have := h1.exi x hx y hy ey
  rw [ey] at this
  exact swap_drop hk h3 h4 _ this ho
theorem swap_ents {m : Md} {d o : Ed} (hk : ∀ x ∈ d.add, ∀ y ∈ o.add, x.key ≠ y.key) (h1 : FineF m d) (h2 : FineF m o) (h3 : FineF (appl m d) o) (h4 : FineF (appl m o) d) (x : En) (h : x ∈ ents (appl m d) o) : x ∈ ents (appl m o) d := by
  have hk' : ∀ x ∈ o.add, ∀ y ∈ d.add, x.key ≠ y.key := fun x hx y hy e => hk y hy x hx e.symm
  obtain ⟨h5, h6⟩ := ents_mem.1 h
  have h6 : maxI (maxI m.cut d.cut) o.cut ≤ x.window := h6
  have h7 : maxI (maxI m.cut o.cut) d.cut ≤ x.window := by rw [maxI_left_comm]; exact h6
  have h8 : maxI m.cut o.cut ≤ x.window := Int.le_trans (maxI_l _ _) h7
  refine ents_mem.2 ⟨?_, h7⟩
  rcases h5 with h5 | ⟨h5, h9⟩
  · exact .inr ⟨ents_mem.2 ⟨.inl h5, h8⟩, swap_add hk' h2 h1 h4 h3 x h5⟩
  · rcases (ents_mem.1 h5).1 with h10 | h10
    · exact .inl h10
    · exact .inr ⟨ents_mem.2 ⟨.inr ⟨h10.1, h9⟩, h8⟩, h10.2⟩
theorem swap_law {m : Md} {d o : Ed} (hne : d.by_.agent ≠ o.by_.agent) (hk : ∀ x ∈ d.add, ∀ y ∈ o.add, x.key ≠ y.key) (e1 : appE m d = 0) (e2 : appE m o = 0) (e3 : appE (appl m d) o = 0) (e4 : appE (appl m o) d = 0) :
    appl (appl m d) o = appl (appl m o) d := by
  have h1 := (appE_zero.1 e1).1.f
  have h2 := (appE_zero.1 e2).1.f
  have h3 := (appE_zero.1 e3).1.f
  have h4 := (appE_zero.1 e4).1.f
  have hk' : ∀ x ∈ o.add, ∀ y ∈ d.add, x.key ≠ y.key := fun x hx y hy e => hk y hy x hx e.symm
  have r3 := h3.right (appE_zero.1 e3).2
  have r4 := h4.right (appE_zero.1 e4).2
  have hE : ents (appl m d) o = ents (appl m o) d := srt_eq ltE_irr ltE_trans h3.srt h4.srt fun x => ⟨swap_ents hk h1 h2 h3 h4 x, swap_ents hk' h2 h1 h4 h3 x⟩
  have hM : mrks (appl m d) o = mrks (appl m o) d := marks_eq r3.srtM r4.srtM r3.mkM r4.mkM fun k => by
    rw [h3.seq, h4.seq]
    show bestM k o.marks (seqL k (mrks m d)) = bestM k d.marks (seqL k (mrks m o))
    rw [h1.seq, h2.seq, best_comm]
  have hO : owns (appl m d) o = owns (appl m o) d := srt_eq ltO_irr ltO_trans (ltO_srt.2 r3.srtO) (ltO_srt.2 r4.srtO) fun z => by
    show z ∈ putL Ow.agent o.by_ (putL Ow.agent d.by_ m.O) ↔ z ∈ putL Ow.agent d.by_ (putL Ow.agent o.by_ m.O)
    rw [putL_mem (putL_srt h1.r.srtO), putL_mem h1.r.srtO, putL_mem (putL_srt h1.r.srtO), putL_mem h1.r.srtO]
    constructor
    · rintro (rfl | ⟨rfl | h, h'⟩)
      · exact .inr ⟨.inl rfl, fun e => hne e.symm⟩
      · exact .inl rfl
      · exact .inr ⟨.inr ⟨h.1, h'⟩, h.2⟩
    · rintro (rfl | ⟨rfl | h, h'⟩)
      · exact .inr ⟨.inl rfl, fun e => hne e⟩
      · exact .inl rfl
      · exact .inr ⟨.inr ⟨h.1, h'⟩, h.2⟩
  show (⟨m.gen + 1 + 1, maxI (maxI m.cut d.cut) o.cut, maxI (maxI m.fence d.fence) o.fence, ents (appl m d) o, mrks (appl m d) o, owns (appl m d) o⟩ : Md) = ⟨m.gen + 1 + 1, maxI (maxI m.cut o.cut) d.cut, maxI (maxI m.fence o.fence) d.fence, ents (appl m o) d, mrks (appl m o) d, owns (appl m o) d⟩
  rw [hE, hM, hO, maxI_left_comm m.cut, maxI_left_comm m.fence]

/-! ### what lies well -/
def Good (m : Md) : Prop := (∀ x ∈ m.E, x.Ok) ∧ Short m.E ∧ m.E.length ≤ 17592186044416 ∧ m.M.length ≤ 17592186044416 ∧ m.O.length ≤ 17592186044416
theorem right_good {m : Md} (h : RightF m) (hk : ∀ x ∈ m.E, x.Ok) (hs : Short m.E) : Good m := ⟨hk, hs, Nat.le_trans h.lenE (by omega), by
  have := srt_len (l := m.M) (a := 1) (b := 64) h.srtM (fun x hx => (mk_in (h.mkM x hx)).1) (by omega)
  omega, by
  have := srt_len (l := m.O) (a := 1) (b := 8) h.srtO (fun x hx => (ow_in (h.owO x hx)).1) (by omega)
  omega⟩
theorem app_good {m : Md} {d : Ed} (h : appE m d = 0) (hk : ∀ x ∈ m.E, x.Ok) (hs : Short m.E) (hkd : ∀ x ∈ d.add, x.Ok) (hsd : Short d.add) : Good (appl m d) := by
  have hF := (appE_zero.1 h).1.f
  refine right_good (hF.right (appE_zero.1 h).2) (fun x hx => ?_) (fun x hx => ?_)
  · rcases (ents_mem.1 hx).1 with h1 | h1
    · exact hkd x h1
    · exact hk x h1.1
  · rcases (ents_mem.1 hx).1 with h1 | h1
    · exact hsd x h1
    · exact hs x h1.1
theorem Mow.good {w : World} {base : Nat} {m : Md} {p : Pl} (h : Mow w base m p) (hg : Good m) : Man w w.heap.size m p := h.man hg.2.2.1 hg.2.2.2.1 hg.2.2.2.2 hg.1

/-! ### a manifest and two edits in boxes -/
def wm3 (w : World) (m : Md) (p : Pl) (d : Ed) (q : Pd) (o : Ed) (r : Pd) : World := (wm2 w m p d q).alloc (.cells #[.slice r.AA o.add.length r.cA, .slice r.AD o.drop.length r.cD, .slice r.AM o.marks.length r.cM, .int .i64 o.cut, .int .i64 o.fence, .int .i64 o.by_.agent, .int .i64 o.by_.life, .int .i64 o.by_.count] 31)
theorem wm3_below (w : World) (m : Md) (p : Pl) (d : Ed) (q : Pd) (o : Ed) (r : Pd) {W : World} (hW : Below (w.heap.size + 3) (wm3 w m p d q o r) W) : Below w.heap.size w W ∧ w.heap.size + 3 ≤ W.heap.size := by
  have h2 := wm2_below w m p d q (Below.refl _ _)
  refine ⟨(h2.1.alloc h2.1.size _).trans (hW.mono (by omega)), ?_⟩
  have := hW.size
  unfold wm3 wm2 at this
  rw [World.size_alloc, World.size_alloc, World.size_alloc] at this
  exact this
theorem wm3_at (w : World) (m : Md) (p : Pl) (d : Ed) (q : Pd) (o : Ed) (r : Pd) {W : World} (hW : Below (w.heap.size + 3) (wm3 w m p d q o r) W) : (W.cell? ⟨w.heap.size, 0, none⟩ = some (.int .i64 m.gen) ∧ W.cell? ⟨w.heap.size, 1, none⟩ = some (.int .i64 m.cut) ∧ W.cell? ⟨w.heap.size, 2, none⟩ = some (.int .i64 m.fence) ∧ W.cell? ⟨w.heap.size, 3, none⟩ = some (.slice p.AE m.E.length p.cE) ∧ W.cell? ⟨w.heap.size, 4, none⟩ = some (.slice p.AM m.M.length p.cM) ∧ W.cell? ⟨w.heap.size, 5, none⟩ = some (.slice p.AO m.O.length p.cO)) ∧ (W.cell? ⟨(w.heap.size + 1), 0, none⟩ = some (.slice q.AA d.add.length q.cA) ∧ W.cell? ⟨(w.heap.size + 1), 1, none⟩ = some (.slice q.AD d.drop.length q.cD) ∧ W.cell? ⟨(w.heap.size + 1), 2, none⟩ = some (.slice q.AM d.marks.length q.cM) ∧ W.cell? ⟨(w.heap.size + 1), 3, none⟩ = some (.int .i64 d.cut) ∧ W.cell? ⟨(w.heap.size + 1), 4, none⟩ = some (.int .i64 d.fence) ∧ W.cell? ⟨(w.heap.size + 1), 5, none⟩ = some (.int .i64 d.by_.agent) ∧ W.cell? ⟨(w.heap.size + 1), 6, none⟩ = some (.int .i64 d.by_.life) ∧ W.cell? ⟨(w.heap.size + 1), 7, none⟩ = some (.int .i64 d.by_.count)) ∧ W.cell? ⟨(w.heap.size + 2), 0, none⟩ = some (.slice r.AA o.add.length r.cA) ∧ W.cell? ⟨(w.heap.size + 2), 1, none⟩ = some (.slice r.AD o.drop.length r.cD) ∧ W.cell? ⟨(w.heap.size + 2), 2, none⟩ = some (.slice r.AM o.marks.length r.cM) ∧ W.cell? ⟨(w.heap.size + 2), 3, none⟩ = some (.int .i64 o.cut) ∧ W.cell? ⟨(w.heap.size + 2), 4, none⟩ = some (.int .i64 o.fence) ∧ W.cell? ⟨(w.heap.size + 2), 5, none⟩ = some (.int .i64 o.by_.agent) ∧ W.cell? ⟨(w.heap.size + 2), 6, none⟩ = some (.int .i64 o.by_.life) ∧ W.cell? ⟨(w.heap.size + 2), 7, none⟩ = some (.int .i64 o.by_.count) := by
  have h2 := wm2_at w m p d q (W := W) (((Below.refl _ _).alloc (by unfold wm2; simp) (.cells #[.slice r.AA o.add.length r.cA, .slice r.AD o.drop.length r.cD, .slice r.AM o.marks.length r.cM, .int .i64 o.cut, .int .i64 o.fence, .int .i64 o.by_.agent, .int .i64 o.by_.life, .int .i64 o.by_.count] 31)).trans (hW.mono (by omega)))
  have h3 := Blk.new (wm2 w m p d q) 31 #[.slice r.AA o.add.length r.cA, .slice r.AD o.drop.length r.cD, .slice r.AM o.marks.length r.cM, .int .i64 o.cut, .int .i64 o.fence, .int .i64 o.by_.agent, .int .i64 o.by_.life, .int .i64 o.by_.count]
  have e : (wm2 w m p d q).heap.size = w.heap.size + 2 := by unfold wm2; simp
  rw [e] at h3
  have h4 := Blk.below h3 hW (by omega)
  exact ⟨h2.1, h2.2, ⟨h4.cell 0, h4.cell 1, h4.cell 2, h4.cell 3, h4.cell 4, h4.cell 5, h4.cell 6, h4.cell 7⟩⟩
end Go.Proofs.YtjbmlhipjceeeaaGreat.Mf
