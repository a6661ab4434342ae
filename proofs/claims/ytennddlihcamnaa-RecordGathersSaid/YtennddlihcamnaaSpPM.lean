/- Plain laws: things put into groups by their keys, in the order in which they come, or in the order of the keys. Groups in memory: a row of three cells a group, each group with a row of its own that grows. -/
import Derived.Test.YtennddlihcamnaaMem
import Derived.Test.YtennddlihcamnaaPart
import Derived.Laws.OwnMore

namespace Go.Proofs.Ytennddlihcamnaa.Sp
set_option linter.unusedVariables false
set_option linter.unusedSimpArgs false
open Go.Proofs.Ytennddlihcamnaa

variable {κ ρ : Type} [DecidableEq κ]
/-- Where the first one stands of which p holds (the length: nowhere). -/
def fst_ {α : Type} (p : α → Bool) : List α → Nat
  | [] => 0
  | x :: r => if p x = true then 0 else fst_ p r + 1
theorem fst_le {α : Type} (p : α → Bool) : ∀ l : List α, fst_ p l ≤ l.length
  | [] => Nat.le_refl _
  | x :: r => by unfold fst_; split; omega; simp only [List.length_cons]; have := fst_le p r; omega
theorem fst_at {α : Type} {p : α → Bool} : ∀ {l : List α} (h : fst_ p l < l.length), p (l[fst_ p l]) = true
  | [], h => absurd h (by simp)
  | x :: r, h => by
    by_cases hx : p x = true
    · have e : fst_ p (x :: r) = 0 := by unfold fst_; rw [if_pos hx]
      simp only [e]; exact hx
    · have e : fst_ p (x :: r) = fst_ p r + 1 := by conv => lhs; unfold fst_; rw [if_neg hx]
      simp only [e, List.getElem_cons_succ]
      exact fst_at (by simp only [e, List.length_cons] at h; omega)
theorem fst_before {α : Type} {p : α → Bool} : ∀ {l : List α} {i : Nat} (_ : i < fst_ p l) (h2 : i < l.length), p l[i] = false
  | [], _, _, h2 => absurd h2 (by simp)
  | x :: r, i, h, h2 => by
    by_cases hx : p x = true
    · have e : fst_ p (x :: r) = 0 := by unfold fst_; rw [if_pos hx]
      omega
    · have e : fst_ p (x :: r) = fst_ p r + 1 := by conv => lhs; unfold fst_; rw [if_neg hx]
      cases i with
      | zero => simpa using hx
      | succ i => simp only [List.getElem_cons_succ]; exact fst_before (by omega) _
theorem fst_none {α : Type} {p : α → Bool} {l : List α} (h : fst_ p l = l.length) : ∀ x ∈ l, p x = false := fun x hx => by
  obtain ⟨i, hi, rfl⟩ := List.getElem_of_mem hx
  exact fst_before (by omega) hi
theorem fst_is {α : Type} {p : α → Bool} {l : List α} {n : Nat} (hn : n ≤ l.length) (h1 : ∀ i (hi : i < l.length), i < n → p l[i] = false) (h2 : ∀ h : n < l.length, p l[n] = true) : fst_ p l = n := by
  have h3 := fst_le p l
  rcases Nat.lt_trichotomy (fst_ p l) n with h | h | h
  · have := fst_at (p := p) (l := l) (by omega)
    rw [h1 _ (by omega) h] at this; cases this
  · exact h
  · have h4 := fst_before (p := p) (l := l) h (by omega)
    rw [h2 (by omega)] at h4; cases h4

/-- A thing behind those of the n-th group. -/
def addTo (gs : List (κ × List ρ)) (n : Nat) (x : ρ) : List (κ × List ρ) := match gs[n]? with
  | none => gs
  | some g => gs.set n (g.1, g.2 ++ [x])
variable (key : ρ → κ)
def has (k : κ) (g : κ × List ρ) : Bool := decide (g.1 = k)
/-- In the order in which they come. -/
def stepG (gs : List (κ × List ρ)) (x : ρ) : List (κ × List ρ) := addTo (if fst_ (has (key x)) gs = gs.length then gs ++ [(key x, [])] else gs) (fst_ (has (key x)) gs) x
variable (lt : κ → κ → Bool)
def notLt (k : κ) (g : κ × List ρ) : Bool := !lt g.1 k
/-- In the order of the keys. -/
def stepR (gs : List (κ × List ρ)) (x : ρ) : List (κ × List ρ) :=
  addTo (if (gs[fst_ (notLt lt (key x)) gs]?.map Prod.fst) = some (key x) then gs else gs.take (fst_ (notLt lt (key x)) gs) ++ (key x, []) :: gs.drop (fst_ (notLt lt (key x)) gs)) (fst_ (notLt lt (key x)) gs) x

/-- What is so of groups of the things S. -/
structure Inv (S : List ρ) (gs : List (κ × List ρ)) : Prop where
  nd : (gs.map Prod.fst).Nodup
  rows : ∀ g ∈ gs, g.2 = S.filter fun y => decide (key y = g.1)
  all : ∀ y ∈ S, key y ∈ gs.map Prod.fst
  full : ∀ g ∈ gs, g.2 ≠ []
variable {key lt}
/-- A thing goes to the group of its key, or into a new one. -/
def Upd (key : ρ → κ) (gs : List (κ × List ρ)) (x : ρ) (gs' : List (κ × List ρ)) : Prop :=
  (∃ (n : Nat) (hn : n < gs.length), gs[n].1 = key x ∧ gs' = gs.set n (gs[n].1, gs[n].2 ++ [x])) ∨ (key x ∉ gs.map Prod.fst ∧ ∃ n, n ≤ gs.length ∧ gs' = gs.take n ++ (key x, [x]) :: gs.drop n)
omit [DecidableEq κ] in
theorem set_keys {gs : List (κ × List ρ)} {n : Nat} (hn : n < gs.length) (l : List ρ) : (gs.set n (gs[n].1, l)).map Prod.fst = gs.map Prod.fst := by
  refine List.ext_getElem? fun i => ?_
  rw [List.getElem?_map, List.getElem?_map, List.getElem?_set]
  by_cases h : n = i
  · subst h
    rw [if_pos rfl, if_pos hn, List.getElem?_eq_getElem hn]
    rfl
  · rw [if_neg h]
theorem Inv.upd {S : List ρ} {gs gs' : List (κ × List ρ)} {x : ρ} (h : Inv key S gs) (hu : Upd key gs x gs') : Inv key (S ++ [x]) gs' := by
  rcases hu with ⟨n, hn, hk, rfl⟩ | ⟨hk, n, hn, rfl⟩
  · have hmem : gs[n] ∈ gs := List.getElem_mem hn
    have hcase : ∀ g ∈ gs.set n (gs[n].1, gs[n].2 ++ [x]), g = (gs[n].1, gs[n].2 ++ [x]) ∨ (g ∈ gs ∧ g.1 ≠ key x) := fun g hg => by
      obtain ⟨i, hi, rfl⟩ := List.getElem_of_mem hg
      have hi' : i < gs.length := by simpa using hi
      by_cases e : n = i
      · subst e
        left; simp
      · right
        have e2 : (gs.set n (gs[n].1, gs[n].2 ++ [x]))[i] = gs[i] := by simp [e]
        rw [e2]
        refine ⟨List.getElem_mem hi', fun e3 => ?_⟩
        have hnd := h.nd
        rw [List.nodup_iff_pairwise_ne, List.pairwise_iff_getElem] at hnd
        rcases Nat.lt_or_gt_of_ne e with h1 | h1
        · have := hnd n i (by simpa using hn) (by simpa using hi') h1
          simp only [List.getElem_map] at this
          exact this (hk.trans e3.symm)
        · have := hnd i n (by simpa using hi') (by simpa using hn) h1
          simp only [List.getElem_map] at this
          exact this (e3.trans hk.symm)
    refine ⟨by rw [set_keys hn]; exact h.nd, fun g hg => ?_, fun y hy => ?_, fun g hg => ?_⟩
    · rcases hcase g hg with rfl | ⟨h1, h2⟩
      · dsimp only
        rw [List.filter_append, h.rows _ hmem]
        congr 1
        simp [hk]
      · rw [List.filter_append, h.rows _ h1]
        simp [Ne.symm h2]
    · rw [set_keys hn]
      rcases List.mem_append.1 hy with h1 | h1
      · exact h.all y h1
      · rw [List.mem_singleton.1 h1, ← hk]; exact List.mem_map.2 ⟨_, hmem, rfl⟩
    · rcases hcase g hg with rfl | ⟨h1, _⟩
      · simp
      · exact h.full g h1
  · have hS : ∀ y ∈ S, key y ≠ key x := fun y hy e => hk (by rw [← e]; exact h.all y hy)
    have hcase : ∀ g ∈ gs.take n ++ (key x, [x]) :: gs.drop n, g = (key x, [x]) ∨ (g ∈ gs ∧ g.1 ≠ key x) := fun g hg => by
      rcases List.mem_append.1 hg with h1 | h1
      · exact .inr ⟨List.mem_of_mem_take h1, fun e => hk (by rw [← e]; exact List.mem_map.2 ⟨_, List.mem_of_mem_take h1, rfl⟩)⟩
      · rcases List.mem_cons.1 h1 with h2 | h2
        · exact .inl h2
        · exact .inr ⟨List.mem_of_mem_drop h2, fun e => hk (by rw [← e]; exact List.mem_map.2 ⟨_, List.mem_of_mem_drop h2, rfl⟩)⟩
    have hkeys : (gs.take n ++ (key x, [x]) :: gs.drop n).map Prod.fst = (gs.map Prod.fst).take n ++ key x :: (gs.map Prod.fst).drop n := by
      rw [List.map_append, List.map_cons, List.map_take, List.map_drop]
    refine ⟨?_, fun g hg => ?_, fun y hy => ?_, fun g hg => ?_⟩
    · rw [hkeys]
      have h0 := h.nd
      rw [← List.take_append_drop n (gs.map Prod.fst)] at h0 hk
      rw [List.nodup_append] at h0 ⊢
      obtain ⟨a, b, c⟩ := h0
      refine ⟨a, List.nodup_cons.2 ⟨fun hh => hk (List.mem_append_right _ hh), b⟩, fun y hy z hz => ?_⟩
      rcases List.mem_cons.1 hz with rfl | hz
      · exact fun e => hk (List.mem_append_left _ (e ▸ hy))
      · exact c y hy z hz
    · rcases hcase g hg with rfl | ⟨h1, h2⟩
      · dsimp only
        rw [List.filter_append]
        have e1 : S.filter (fun y => decide (key y = key x)) = [] := List.filter_eq_nil_iff.2 fun y hy => by simpa using hS y hy
        rw [e1]; simp
      · rw [List.filter_append, h.rows _ h1]
        simp [Ne.symm h2]
    · rw [hkeys]
      rcases List.mem_append.1 hy with h1 | h1
      · have := h.all y h1
        rw [← List.take_append_drop n (gs.map Prod.fst)] at this
        rcases List.mem_append.1 this with h2 | h2
        · exact List.mem_append_left _ h2
        · exact List.mem_append_right _ (List.mem_cons_of_mem _ h2)
      · rw [List.mem_singleton.1 h1]; exact List.mem_append_right _ List.mem_cons_self
    · rcases hcase g hg with rfl | ⟨h1, _⟩
      · simp
      · exact h.full g h1
theorem Inv.nil : Inv key ([] : List ρ) [] := ⟨by simp, fun _ h => (by cases h), fun _ h => (by cases h), fun _ h => (by cases h)⟩
/-- The groups are told by the things. -/
theorem Inv.mem_iff {S : List ρ} {a b : List (κ × List ρ)} (ha : Inv key S a) (hb : Inv key S b) {g : κ × List ρ} : g ∈ a → g ∈ b := fun hg => by
  have h1 := ha.rows g hg
  have h2 := ha.full g hg
  obtain ⟨y, r, hy⟩ : ∃ y r, g.2 = y :: r := by
    cases hh : g.2 with
    | nil => exact absurd hh h2
    | cons y r => exact ⟨y, r, rfl⟩
  have hmem : y ∈ S.filter fun y => decide (key y = g.1) := by rw [← h1, hy]; exact List.mem_cons_self
  obtain ⟨h3, h4⟩ := List.mem_filter.1 hmem
  have hk : key y = g.1 := of_decide_eq_true h4
  obtain ⟨g', hg', e⟩ := List.mem_map.1 (hb.all y h3)
  have : g' = g := by
    refine Prod.ext (e.trans hk) ?_
    rw [hb.rows g' hg', h1, e, hk]
  exact this ▸ hg'
/-- Two lists that rise by an order, of the same things, are one. -/
theorem srt_ext {α : Type} {r : α → α → Prop} (hirr : ∀ x, ¬ r x x) (htr : ∀ x y z, r x y → r y z → r x z) : ∀ {a b : List α}, a.Pairwise r → b.Pairwise r → (∀ x, x ∈ a ↔ x ∈ b) → a = b
  | [], [], _, _, _ => rfl
  | [], y :: b, _, _, h => absurd ((h y).2 List.mem_cons_self) (by simp)
  | x :: a, [], _, _, h => absurd ((h x).1 List.mem_cons_self) (by simp)
  | x :: a, y :: b, ha, hb, h => by
    rw [List.pairwise_cons] at ha hb
    have hxy : x = y := by
      rcases List.mem_cons.1 ((h x).1 List.mem_cons_self) with h1 | h1
      · exact h1
      · rcases List.mem_cons.1 ((h y).2 List.mem_cons_self) with h2 | h2
        · exact h2.symm
        · exact absurd (htr _ _ _ (hb.1 x h1) (ha.1 y h2)) (hirr _)
    subst hxy
    have : a = b := srt_ext hirr htr ha.2 hb.2 fun z => by
      constructor
      · intro hz
        rcases List.mem_cons.1 ((h z).1 (List.mem_cons_of_mem _ hz)) with h1 | h1
        · exact absurd (ha.1 z hz) (h1 ▸ hirr _)
        · exact h1
      · intro hz
        rcases List.mem_cons.1 ((h z).2 (List.mem_cons_of_mem _ hz)) with h1 | h1
        · exact absurd (hb.1 z hz) (h1 ▸ hirr _)
        · exact h1
    rw [this]
theorem Inv.eq {S : List ρ} {a b : List (κ × List ρ)} (hirr : ∀ k, lt k k = false) (htr : ∀ x y z, lt x y = true → lt y z = true → lt x z = true) (ha : Inv key S a) (hb : Inv key S b) (sa : a.Pairwise fun g h => lt g.1 h.1 = true) (sb : b.Pairwise fun g h => lt g.1 h.1 = true) : a = b :=
  srt_ext (r := fun g h => lt g.1 h.1 = true) (fun x h => by rw [hirr] at h; cases h) (fun _ _ _ => htr _ _ _) sa sb fun _ => ⟨ha.mem_iff hb, hb.mem_iff ha⟩
theorem stepG_upd {gs : List (κ × List ρ)} {x : ρ} : Upd key gs x (stepG key gs x) := by
  unfold stepG addTo
  have hle := fst_le (has (key x)) gs
  by_cases h : fst_ (has (key x)) gs = gs.length
  · right
    rw [if_pos h, h]
    have hno := fst_none h
    refine ⟨fun hm => ?_, gs.length, Nat.le_refl _, ?_⟩
    · obtain ⟨g, hg, e⟩ := List.mem_map.1 hm
      have := hno g hg
      unfold has at this
      rw [decide_eq_true e] at this
      cases this
    · simp
  · left
    have hlt : fst_ (has (key x)) gs < gs.length := by omega
    have hat := fst_at hlt
    refine ⟨_, hlt, of_decide_eq_true hat, ?_⟩
    rw [if_neg h, List.getElem?_eq_getElem hlt]
theorem stepR_upd {gs : List (κ × List ρ)} {x : ρ} (hirr : ∀ k, lt k k = false) (htr : ∀ x y z, lt x y = true → lt y z = true → lt x z = true) (hs : gs.Pairwise fun g h => lt g.1 h.1 = true) :
    Upd key gs x (stepR key lt gs x) ∧ ((∀ a b, a ≠ b → lt a b = true ∨ lt b a = true) → (stepR key lt gs x).Pairwise fun g h => lt g.1 h.1 = true) := by
  have hle := fst_le (notLt lt (key x)) gs
  have hbef : ∀ i (h : i < gs.length), i < fst_ (notLt lt (key x)) gs → lt gs[i].1 (key x) = true := fun i h h1 => by
    have h2 : (!lt gs[i].1 (key x)) = false := fst_before (p := notLt lt (key x)) h1 h
    exact (Bool.not_eq_false' _).mp h2
  have hat : ∀ h : fst_ (notLt lt (key x)) gs < gs.length, lt gs[fst_ (notLt lt (key x)) gs].1 (key x) = false := fun h => by
    have h2 : (!lt gs[fst_ (notLt lt (key x)) gs].1 (key x)) = true := fst_at (p := notLt lt (key x)) h
    exact (Bool.not_eq_true' _).mp h2
  unfold stepR
  generalize fst_ (notLt lt (key x)) gs = n at *
  have hpg := List.pairwise_iff_getElem.1 hs
  by_cases h : (gs[n]?.map Prod.fst) = some (key x)
  · rw [if_pos h]
    have hn : n < gs.length := by
      rcases Nat.lt_or_ge n gs.length with h1 | h1
      · exact h1
      · rw [List.getElem?_eq_none h1] at h; cases h
    rw [List.getElem?_eq_getElem hn] at h
    have hk : gs[n].1 = key x := by simpa using h
    have e : addTo gs n x = gs.set n (gs[n].1, gs[n].2 ++ [x]) := by unfold addTo; rw [List.getElem?_eq_getElem hn]
    rw [e]
    refine ⟨.inl ⟨n, hn, hk, rfl⟩, fun _ => ?_⟩
    have h1 : ((gs.set n (gs[n].1, gs[n].2 ++ [x])).map Prod.fst).Pairwise fun a b => lt a b = true := by rw [set_keys hn, List.pairwise_map]; exact hs
    rwa [List.pairwise_map] at h1
  · rw [if_neg h]
    have e : addTo (gs.take n ++ (key x, []) :: gs.drop n) n x = gs.take n ++ (key x, [x]) :: gs.drop n := by
      unfold addTo
      have hl : (gs.take n).length = n := by rw [List.length_take]; omega
      rw [List.getElem?_append_right (by omega), hl, Nat.sub_self, List.getElem?_cons_zero]
      dsimp only
      rw [List.set_append_right _ _ (by omega), hl, Nat.sub_self, List.set_cons_zero, List.nil_append]
    rw [e]
    have hno : key x ∉ gs.map Prod.fst := fun hm => by
      obtain ⟨g, hg, eg⟩ := List.mem_map.1 hm
      obtain ⟨i, hi, rfl⟩ := List.getElem_of_mem hg
      rcases Nat.lt_trichotomy i n with h1 | h1 | h1
      · have := hbef i hi h1
        rw [eg, hirr] at this; cases this
      · subst h1
        rw [List.getElem?_eq_getElem hi] at h
        exact h (by simp [eg])
      · have h2 := hpg n i (by omega) hi h1
        rw [eg, hat (by omega)] at h2
        cases h2
    refine ⟨.inr ⟨hno, n, hle, rfl⟩, fun htot => ?_⟩
    have hs' := hs
    rw [← List.take_append_drop n gs, List.pairwise_append] at hs'
    obtain ⟨s1, s2, s3⟩ := hs'
    have haft : ∀ g ∈ gs.drop n, lt (key x) g.1 = true := fun g hg => by
      obtain ⟨i, hi, rfl⟩ := List.getElem_of_mem hg
      rw [List.length_drop] at hi
      rw [List.getElem_drop]
      have hne : gs[n + i].1 ≠ key x := fun e => hno (by rw [← e]; exact List.mem_map.2 ⟨_, List.getElem_mem _, rfl⟩)
      rcases htot _ _ hne with h1 | h1
      · exfalso
        have h0 := hat (by omega)
        rcases Nat.eq_zero_or_pos i with h2 | h2
        · subst h2
          have h1' : lt gs[n].1 (key x) = true := h1
          rw [h1'] at h0; cases h0
        · have h3 := hpg n (n + i) (by omega) (by omega) (by omega)
          rw [htr _ _ _ h3 h1] at h0; cases h0
      · exact h1
    refine List.pairwise_append.2 ⟨s1, List.pairwise_cons.2 ⟨haft, s2⟩, fun g hg g' hg' => ?_⟩
    have hgl : lt g.1 (key x) = true := by
      obtain ⟨i, hi, rfl⟩ := List.getElem_of_mem hg
      rw [List.length_take] at hi
      rw [List.getElem_take]
      exact hbef i (by omega) (by omega)
    rcases List.mem_cons.1 hg' with rfl | hg'
    · exact hgl
    · exact s3 g hg g' hg'
end Go.Proofs.Ytennddlihcamnaa.Sp

namespace Go.Proofs.Ytennddlihcamnaa.Sp
set_option linter.unusedVariables false
set_option linter.unusedSimpArgs false
open Go.RowKit Go.Proofs.Ytennddlihcamnaa

/-- A group: its window and part, where its rows lie, its rows. -/
structure Gp (ρ : Type) where
  win : Int
  part : ByteArray
  A : Option Addr
  c : Nat
  rows : List ρ
variable {ρ : Type}
abbrev Gp.sl (g : Gp ρ) : Value := .slice g.A g.rows.length g.c
def Gp.cells (g : Gp ρ) : List Value := [.int .i64 g.win, .string g.part, .slice g.A g.rows.length g.c]
theorem gp_len (g : Gp ρ) : g.cells.length = 3 := rfl
theorem flat_set : ∀ (gs : List (Gp ρ)) (n : Nat) (hn : n < gs.length) (g' : Gp ρ), g'.win = gs[n].win → g'.part = gs[n].part → (gs.set n g').flatMap Gp.cells = (gs.flatMap Gp.cells).set (n * 3 + 2) g'.sl
  | [], n, hn, _, _, _ => absurd hn (by simp)
  | g :: r, 0, _, g', h1, h2 => by
    have h1 : g'.win = g.win := h1
    have h2 : g'.part = g.part := h2
    rw [List.set_cons_zero, List.flatMap_cons, List.flatMap_cons]
    unfold Gp.cells
    rw [h1, h2]
    rfl
  | g :: r, n + 1, hn, g', h1, h2 => by
    rw [List.set_cons_succ, List.flatMap_cons, List.flatMap_cons, flat_set r n (by simpa using hn) g' h1 h2, List.set_append_right _ _ (by rw [gp_len]; omega), gp_len]
    congr 2
    omega
/-- The groups gs lie in a row of the call's own (elements of type eG), each one's rows in a row of its own (elements of type eR, k cells each). -/
structure Gs (cs : ρ → List Value) (W : World) (base k : Nat) (eG eR : TypeId) (A : Option Addr) (c : Nat) (gs : List (Gp ρ)) : Prop where
  out : W.ownsRow base eG 3 (.slice A gs.length c) gs.length (gs.flatMap Gp.cells)
  rows : ∀ g ∈ gs, W.ownsRow base eR k g.sl g.rows.length (g.rows.flatMap cs)
  apart : gs.Pairwise fun g h => ∀ b, g.sl.ownBlock = some b → h.sl.ownBlock ≠ some b
section
variable {cs : ρ → List Value} {W W' : World} {base k : Nat} {eG eR : TypeId} {A : Option Addr} {c : Nat} {gs : List (Gp ρ)}
theorem own_blkT {n size : Nat} {e : TypeId} {v : Value} {xs : List Value} (h : W.ownsRow base e size v n xs) {b : Nat} (hb : v.ownBlock = some b) : ∃ cur, W.heap[b]? = some (.cells cur e (0, 0)) := by
  rcases h.2 with ⟨rfl, _⟩ | ⟨g, cap, cur, rfl, _, hg, _⟩
  · cases hb
  · injection hb with hb
    subst hb
    exact ⟨cur, hg⟩
theorem blk_apart {n m s t : Nat} {e e' : TypeId} {v v' : Value} {xs ys : List Value} {base' : Nat} (h : W.ownsRow base e s v n xs) (h' : W.ownsRow base' e' t v' m ys) (hne : e ≠ e') : v.ownBlock = none ∨ v.ownBlock ≠ v'.ownBlock := by
  rcases hv : v.ownBlock with _ | b
  · exact .inl rfl
  · right
    intro e2
    obtain ⟨cur, h1⟩ := own_blkT h hv
    obtain ⟨cur', h2⟩ := own_blkT h' e2.symm
    rw [h1] at h2
    injection h2 with h2
    injection h2 with _ h2
    exact hne h2
theorem Gs.below (h : Gs cs W base k eG eR A c gs) (hb : Below W.heap.size W W') : Gs cs W' base k eG eR A c gs :=
  ⟨own_below h.out hb, fun g hg => own_below (h.rows g hg) hb, h.apart⟩
theorem Gs.only (h : Gs cs W base k eG eR A c gs) {g : Nat} (ho : Only g W W') (hg : g < base) : Gs cs W' base k eG eR A c gs :=
  ⟨own_only h.out ho hg, fun x hx => own_only (h.rows x hx) ho hg, h.apart⟩
theorem Gs.nil : Gs cs W base k eG eR none 0 ([] : List (Gp ρ)) := ⟨World.ownsRow_nil _ _ _ _, fun _ h => (by cases h), List.Pairwise.nil⟩
/-- A new group behind the others. -/
theorem Gs.add (h : Gs cs W base k eG eR A c gs) (hne : eR ≠ eG) {A' : Option Addr} {c' : Nat} {win : Int} {part : ByteArray} (hown : W'.ownsRow base eG 3 (.slice A' (gs.length + 1) c') (gs.length + 1) (gs.flatMap Gp.cells ++ [.int .i64 win, .string part, .slice none 0 0])) (hg : W.grownBy W' (Value.slice A gs.length c).ownBlock) :
    Gs cs W' base k eG eR A' c' (gs ++ [⟨win, part, none, 0, []⟩]) := by
  refine ⟨?_, fun g hgm => ?_, ?_⟩
  · rw [List.length_append, List.flatMap_append]
    simpa [Gp.cells] using hown
  · rcases List.mem_append.1 hgm with h1 | h1
    · exact (h.rows g h1).kept hg (blk_apart (h.rows g h1) h.out hne)
    · rw [List.mem_singleton.1 h1]; exact World.ownsRow_nil _ _ _ _
  · rw [List.pairwise_append]
    refine ⟨h.apart, List.pairwise_singleton _ _, fun g _ g' hg' b _ => ?_⟩
    rw [List.mem_singleton.1 hg']
    intro e; cases e
/-- A thing behind those of the n-th group: its row has grown, and the group's cell is written. -/
theorem Gs.push (h : Gs cs W base k eG eR A c gs) (hne : eR ≠ eG) {n : Nat} (hn : n < gs.length) {A' : Option Addr} {c' go : Nat} {x : ρ} (hA : A = some ⟨go, 0, none⟩)
    (hrow : W'.ownsRow base eR k (.slice A' (gs[n].rows.length + 1) c') (gs[n].rows.length + 1) (gs[n].rows.flatMap cs ++ cs x)) (hg : W.grownBy W' gs[n].sl.ownBlock)
    (hat : (Value.slice A' (gs[n].rows.length + 1) c').ownBlock = gs[n].sl.ownBlock ∨ (Value.slice A' (gs[n].rows.length + 1) c').ownBlock = some W.heap.size) :
    Gs cs (W'.setCell ⟨go, n * 3 + 2, none⟩ (.slice A' (gs[n].rows.length + 1) c')) base k eG eR A c (gs.set n ⟨gs[n].win, gs[n].part, A', c', gs[n].rows ++ [x]⟩) := by
  subst hA
  have hmem : gs[n] ∈ gs := List.getElem_mem hn
  have hout : W'.ownsRow base eG 3 (.slice (some ⟨go, 0, none⟩) gs.length c) gs.length (gs.flatMap Gp.cells) := h.out.kept hg (blk_apart h.out (h.rows _ hmem) (Ne.symm hne))
  have hst := (World.ownsRow.stored hout (n * 3 + 2) (.slice A' (gs[n].rows.length + 1) c')).1
  have hgo : (Value.slice (some ⟨go, 0, none⟩) gs.length c).ownBlock = some go := rfl
  have hpw := List.pairwise_iff_getElem.1 h.apart
  have hother : ∀ i (hi : i < gs.length), i ≠ n → W'.ownsRow base eR k gs[i].sl gs[i].rows.length (gs[i].rows.flatMap cs) := fun i hi e => by
    refine (h.rows _ (List.getElem_mem hi)).kept hg ?_
    rcases hv : gs[i].sl.ownBlock with _ | b
    · exact .inl rfl
    · right
      intro e2
      rcases Nat.lt_or_gt_of_ne e with h1 | h1
      · exact hpw i n hi hn h1 b hv e2.symm
      · exact hpw n i hn hi h1 b e2.symm hv
  have hset : ∀ {m : Nat} {v : Value} {xs : List Value}, W'.ownsRow base eR k v m xs → (W'.setCell ⟨go, n * 3 + 2, none⟩ (.slice A' (gs[n].rows.length + 1) c')).ownsRow base eR k v m xs := fun {m v xs} hr => by
    refine hr.kept ((Only.refl go W').setCell (.inl rfl) _) ?_
    have := blk_apart hr hout hne
    rw [hgo] at this
    exact this
  have hlen : (gs[n].rows ++ [x]).length = gs[n].rows.length + 1 := by simp
  refine ⟨?_, fun g hgm => ?_, ?_⟩
  · rw [List.length_set, flat_set gs n hn ⟨gs[n].win, gs[n].part, A', c', gs[n].rows ++ [x]⟩ rfl rfl]
    show (W'.setCell _ _).ownsRow _ _ _ _ _ ((gs.flatMap Gp.cells).set (n * 3 + 2) (.slice A' (gs[n].rows ++ [x]).length c'))
    rw [hlen]
    exact hst
  · obtain ⟨i, hi, rfl⟩ := List.getElem_of_mem hgm
    have hi' : i < gs.length := by simpa using hi
    by_cases e : n = i
    · subst e
      have e2 : (gs.set n ⟨gs[n].win, gs[n].part, A', c', gs[n].rows ++ [x]⟩)[n]'hi = ⟨gs[n].win, gs[n].part, A', c', gs[n].rows ++ [x]⟩ := by simp
      rw [e2]
      show (W'.setCell _ _).ownsRow _ _ _ (.slice A' (gs[n].rows ++ [x]).length c') (gs[n].rows ++ [x]).length _
      rw [hlen, List.flatMap_append]
      have := hset hrow
      simpa using this
    · have e2 : (gs.set n ⟨gs[n].win, gs[n].part, A', c', gs[n].rows ++ [x]⟩)[i]'hi = gs[i] := by simp [e]
      rw [e2]
      exact hset (hother i hi' (Ne.symm e))
  · refine List.pairwise_iff_getElem.2 fun i j hi hj hij b h1 h2 => ?_
    have hi' : i < gs.length := by simpa using hi
    have hj' : j < gs.length := by simpa using hj
    have hlt : ∀ q (hq : q < gs.length) b, gs[q].sl.ownBlock = some b → b < W.heap.size := fun q hq b hb => ((h.rows _ (List.getElem_mem hq)).lt b hb).2
    have hnew : (Gp.sl (⟨gs[n].win, gs[n].part, A', c', gs[n].rows ++ [x]⟩ : Gp ρ)).ownBlock = (Value.slice A' (gs[n].rows.length + 1) c').ownBlock := by
      cases A' <;> rfl
    by_cases e1 : n = i
    · subst e1
      have e2 : (gs.set n ⟨gs[n].win, gs[n].part, A', c', gs[n].rows ++ [x]⟩)[j]'hj = gs[j] := by simp [show n ≠ j by omega]
      rw [e2] at h2
      have e3 : (gs.set n ⟨gs[n].win, gs[n].part, A', c', gs[n].rows ++ [x]⟩)[n]'hi = ⟨gs[n].win, gs[n].part, A', c', gs[n].rows ++ [x]⟩ := by simp
      rw [e3, hnew] at h1
      rcases hat with h3 | h3
      · rw [h3] at h1; exact hpw n j hn hj' hij b h1 h2
      · rw [h3] at h1
        injection h1 with h1
        have := hlt j hj' b h2
        omega
    · have e2 : (gs.set n ⟨gs[n].win, gs[n].part, A', c', gs[n].rows ++ [x]⟩)[i]'hi = gs[i] := by simp [e1]
      rw [e2] at h1
      by_cases e4 : n = j
      · subst e4
        have e3 : (gs.set n ⟨gs[n].win, gs[n].part, A', c', gs[n].rows ++ [x]⟩)[n]'hj = ⟨gs[n].win, gs[n].part, A', c', gs[n].rows ++ [x]⟩ := by simp
        rw [e3, hnew] at h2
        rcases hat with h3 | h3
        · rw [h3] at h2; exact hpw i n hi' hn hij b h1 h2
        · rw [h3] at h2
          injection h2 with h2
          have := hlt i hi' b h1
          omega
      · have e3 : (gs.set n ⟨gs[n].win, gs[n].part, A', c', gs[n].rows ++ [x]⟩)[j]'hj = gs[j] := by simp [e4]
        rw [e3] at h2
        exact hpw i j hi' hj' hij b h1 h2
end
end Go.Proofs.Ytennddlihcamnaa.Sp
