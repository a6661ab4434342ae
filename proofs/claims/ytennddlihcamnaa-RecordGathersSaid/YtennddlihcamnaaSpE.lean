/- Plain laws for RecordSplits and RecordGathers: groups wherever the labels lie; a group's cells and rows. -/
import Derived.Test.YtennddlihcamnaaProg
import Derived.Test.YtennddlihcamnaaSpR
import Derived.Test.YtennddlihcamnaaSpD
namespace Go.Proofs.Ytennddlihcamnaa.Sp
set_option linter.unusedVariables false
set_option linter.unusedSimpArgs false
open Go.RowKit Go.Proofs.Ytennddlihcamnaa Go.Proofs.Ytennddlihcamnaa.So

section
variable {κ ρ σ : Type} [DecidableEq κ]
def lgG (f : ρ → σ) (g : κ × List ρ) : κ × List σ := (g.1, g.2.map f)
omit [DecidableEq κ] in
theorem addTo_map (f : ρ → σ) (gs : List (κ × List ρ)) (n : Nat) (x : ρ) : addTo (gs.map (lgG f)) n (f x) = (addTo gs n x).map (lgG f) := by
  unfold addTo
  rw [List.getElem?_map]
  cases h : gs[n]? with
  | none => rfl
  | some g =>
    show (gs.map (lgG f)).set n ((lgG f g).1, (lgG f g).2 ++ [f x]) = _
    rw [List.map_set]
    congr 1
    simp [lgG]
theorem stepR_map (f : ρ → σ) {key : ρ → κ} {key' : σ → κ} (hk : ∀ x, key' (f x) = key x) (lt : κ → κ → Bool) (gs : List (κ × List ρ)) (x : ρ) : stepR key' lt (gs.map (lgG f)) (f x) = (stepR key lt gs x).map (lgG f) := by
  have e : fst_ (notLt lt (key' (f x))) (gs.map (lgG f)) = fst_ (notLt lt (key x)) gs := by
    rw [fst_map, hk]
    rfl
  unfold stepR
  rw [e, ← addTo_map, hk]
  have e2 : ((gs.map (lgG f))[fst_ (notLt lt (key x)) gs]?.map Prod.fst) = (gs[fst_ (notLt lt (key x)) gs]?.map Prod.fst) := by
    rw [List.getElem?_map, Option.map_map]
    rfl
  rw [e2]
  by_cases h : (gs[fst_ (notLt lt (key x)) gs]?.map Prod.fst) = some (key x)
  · rw [if_pos h, if_pos h]
  · rw [if_neg h, if_neg h, List.map_append, List.map_cons, List.map_take, List.map_drop]
    rfl
theorem foldR_map (f : ρ → σ) {key : ρ → κ} {key' : σ → κ} (hk : ∀ x, key' (f x) = key x) (lt : κ → κ → Bool) (S : List ρ) : foldR key' lt (S.map f) = (foldR key lt S).map (lgG f) := by
  have : ∀ (S : List ρ) (gs : List (κ × List ρ)), (S.map f).foldl (stepR key' lt) (gs.map (lgG f)) = (S.foldl (stepR key lt) gs).map (lgG f) := fun S => by
    induction S with
    | nil => intro gs; rfl
    | cons x S ih =>
      intro gs
      rw [List.map_cons, List.foldl_cons, List.foldl_cons, stepR_map f hk, ih]
  exact this S []
end
/-- Both ways of parting give the same groups, wherever the labels lie. -/
theorem same_groups {win : Int} {by_ : List ByteArray} {d m : List Rw} (h : SameL d m) {g1 g2 : List (Gp Rw)} (h1 : g1.map prG = foldR (keyR win by_) ltK d) (h2 : g2.map prG = foldR (keyR win by_) ltK m) :
    g1.length = g2.length ∧ ∀ i (hi : i < g1.length) (hj : i < g2.length), g1[i].win = g2[i].win ∧ g1[i].part = g2[i].part ∧ SameL g1[i].rows g2[i].rows := by
  have e1 := foldR_map (key := keyR win by_) Rw.logic (fun x => keyR_logic win by_ x) ltK d
  have e2 := foldR_map (key := keyR win by_) Rw.logic (fun x => keyR_logic win by_ x) ltK m
  rw [show d.map Rw.logic = m.map Rw.logic from h, e2, ← h1, ← h2] at e1
  have hl := congrArg List.length e1
  simp only [List.length_map] at hl
  refine ⟨hl.symm, fun i hi hj => ?_⟩
  have e3 := congrArg (fun l => l[i]?) e1
  simp only [List.getElem?_map, List.getElem?_eq_getElem hi, List.getElem?_eq_getElem hj, Option.map_some] at e3
  injection e3 with e3
  have e4 := congrArg Prod.fst e3
  have e5 := congrArg Prod.snd e3
  exact ⟨(congrArg Prod.fst e4).symm, (congrArg Prod.snd e4).symm, e5.symm⟩
/-- The i-th group's cells. -/
def At3 (W : World) (g i : Nat) (x : Gp Rw) : Prop := W.cell? ⟨g, i * 3, none⟩ = some (.int .i64 x.win) ∧ W.cell? ⟨g, i * 3 + 1, none⟩ = some (.string x.part) ∧ W.cell? ⟨g, i * 3 + 2, none⟩ = some (.slice x.A x.rows.length x.c)
theorem reads3 {W : World} {B g : Nat} {gs : List (Gp Rw)} {A : Option Addr} (h : Reads W B 3 A gs.length (gs.flatMap Gp.cells)) (hA : A = some ⟨g, 0, none⟩) {i : Nat} (hi : i < gs.length) : At3 W g i gs[i] := by
  obtain ⟨b, off, e, _, hc⟩ := h.2 (by omega)
  rw [hA] at e
  injection e with e
  injection e with e1 e2 _
  subst e1 e2
  have h0 := hc (i * 3) (.int .i64 gs[i].win) (by rw [fm_get gs _ (by omega), show i * 3 / 3 = i by omega, show i * 3 % 3 = 0 by omega]; simp [Gp.cells, hi])
  have h1 := hc (i * 3 + 1) (.string gs[i].part) (by rw [fm_get gs _ (by omega), show (i * 3 + 1) / 3 = i by omega, show (i * 3 + 1) % 3 = 1 by omega]; simp [Gp.cells, hi])
  have h2 := hc (i * 3 + 2) gs[i].sl (fm_two hi)
  rw [Nat.zero_add] at h0 h1 h2
  exact ⟨h0, h1, h2⟩
theorem Gs.addr {W : World} {base k c : Nat} {eG eR : TypeId} {A : Option Addr} {gs : List (Gp Rw)} (h : Gs (Sr.nine Rw.c) W base k eG eR A c gs) (h0 : 0 < gs.length) : ∃ g, A = some ⟨g, 0, none⟩ ∧ g < W.heap.size := by
  rcases h.out.2 with ⟨_, e⟩ | ⟨g, _, cur, e, _, hg, _⟩
  · omega
  · injection e with e _ _
    exact ⟨g, e, Blk.lt (show Blk W g eG cur from hg)⟩
theorem mem_groups {win : Int} {by_ : List ByteArray} {d : List Rw} {gs : List (Gp Rw)} (h : gs.map prG = foldR (keyR win by_) ltK d) {g : Gp Rw} (hg : g ∈ gs) {x : Rw} (hx : x ∈ g.rows) : x ∈ d := by
  have hI := (foldR_go (key := keyR win by_) swoK.irr swoK.trans totK d [] [] Inv.nil List.Pairwise.nil).1
  rw [List.nil_append, show List.foldl (stepR (keyR win by_) ltK) [] d = foldR (keyR win by_) ltK d from rfl, ← h] at hI
  have h1 := hI.rows (prG g) (List.mem_map_of_mem hg)
  have h2 : g.rows = d.filter fun y => decide (keyR win by_ y = (prG g).1) := h1
  rw [h2] at hx
  exact (List.mem_filter.1 hx).1
/-- A group's rows read. -/
theorem Gs.reads {W : World} {base c : Nat} {eG : TypeId} {A : Option Addr} {gs : List (Gp Rw)} (h : Gs (Sr.nine Rw.c) W base 9 eG 37 A c gs) {g : Gp Rw} (hg : g ∈ gs) (hx : ∀ x ∈ g.rows, x.ok W W.heap.size) : Rows W W.heap.size g.A g.rows :=
  ⟨Reads.of_own (h.rows g hg), hx⟩
end Go.Proofs.Ytennddlihcamnaa.Sp
