/- Plain laws for the document's Split: groups in the order of their keys. -/
import Derived.Test.YtennddlihcamnaaProg
import Derived.Test.YtennddlihcamnaaSpU
import Derived.Test.YtennddlihcamnaaSpT
namespace Go.Proofs.Ytennddlihcamnaa.Sp
set_option linter.unusedVariables false
set_option linter.unusedSimpArgs false
open Go.RowKit Go.Proofs.Ytennddlihcamnaa Go.Proofs.Ytennddlihcamnaa.So

section
variable {ρ : Type}
/-- Groups as the document's Split holds them (no group yet: a row without things). -/
structure Gr (cs : ρ → List Value) (W : World) (base k : Nat) (eG eR : TypeId) (A : Option Addr) (c : Nat) (gs : List (Gp ρ)) : Prop where
  rd : Reads W W.heap.size 3 A gs.length (gs.flatMap Gp.cells)
  cap : gs.length ≤ c
  at_ : ∃ g, A = some ⟨g, 0, none⟩
  own : 0 < gs.length → Gs cs W base k eG eR A c gs
variable {cs : ρ → List Value} {W W' : World} {base k : Nat} {eG eR : TypeId} {A A' : Option Addr} {c c' : Nat} {gs gs' : List (Gp ρ)}
theorem Gr.below (h : Gr cs W base k eG eR A c gs) (hb : Below W.heap.size W W') : Gr cs W' base k eG eR A c gs := ⟨h.rd.to hb hb.size, h.cap, h.at_, fun h0 => (h.own h0).below hb⟩
theorem Gs.gr (h : Gs cs W base k eG eR A c gs) (h0 : 0 < gs.length) : Gr cs W base k eG eR A c gs := by
  have h1 := Reads.of_own h.out
  rcases h.out.2 with ⟨_, e⟩ | ⟨g, cap, _, e, _, _, hn, _⟩
  · omega
  · injection e with e _ e2
    exact ⟨h1, by omega, ⟨g, e⟩, fun _ => h⟩
theorem Gr.nil (g : Nat) (h : gs = []) : Gr cs W base k eG eR (some ⟨g, 0, none⟩) c gs := by
  subst h
  exact ⟨⟨by simp, fun h => absurd h (by simp)⟩, Nat.zero_le _, ⟨g, rfl⟩, fun h => absurd h (by simp)⟩
/-- A new group among the others, all in a new row. -/
theorem Gr.ins (h : Gr cs W base k eG eR A c gs) (hb : Below W.heap.size W W') {n : Nat} {win : Int} {part : ByteArray} (hg : gs' = gs.take n ++ ⟨win, part, none, 0, []⟩ :: gs.drop n)
    (hown : W'.ownsRow base eG 3 (.slice A' gs'.length c') gs'.length (gs'.flatMap Gp.cells)) : Gs cs W' base k eG eR A' c' gs' := by
  have hall : (∀ g ∈ gs, W'.ownsRow base eR k g.sl g.rows.length (g.rows.flatMap cs)) ∧ gs.Pairwise fun g h => ∀ b, g.sl.ownBlock = some b → h.sl.ownBlock ≠ some b := by
    rcases Nat.eq_zero_or_pos gs.length with h0 | h0
    · obtain rfl := List.eq_nil_of_length_eq_zero h0
      exact ⟨fun g hg => absurd hg (by simp), List.Pairwise.nil⟩
    · have h1 := (h.own h0).below hb
      exact ⟨h1.rows, h1.apart⟩
  obtain ⟨hr, hp⟩ := hall
  refine ⟨hown, fun g hgm => ?_, ?_⟩
  · rw [hg] at hgm
    rcases List.mem_append.1 hgm with h1 | h1
    · exact hr g (List.mem_of_mem_take h1)
    · rcases List.mem_cons.1 h1 with rfl | h2
      · exact World.ownsRow_nil _ _ _ _
      · exact hr g (List.mem_of_mem_drop h2)
  · rw [hg]
    have hp2 := hp
    rw [← List.take_append_drop n gs, List.pairwise_append] at hp2
    refine List.pairwise_append.2 ⟨hp2.1, List.pairwise_cons.2 ⟨fun g _ b e => (by cases e), hp2.2.1⟩, fun a ha b hb2 b9 e1 => ?_⟩
    rcases List.mem_cons.1 hb2 with rfl | h2
    · intro e; cases e
    · exact hp2.2.2 a ha b h2 b9 e1
theorem flat3_take : ∀ (gs : List (Gp ρ)) (n : Nat), (gs.flatMap Gp.cells).take (n * 3) = (gs.take n).flatMap Gp.cells
  | [], n => by simp
  | g :: r, 0 => by simp
  | g :: r, n + 1 => by
    rw [List.flatMap_cons, List.take_succ_cons, List.flatMap_cons, ← flat3_take r n, show (n + 1) * 3 = g.cells.length + n * 3 by rw [gp_len]; omega, List.take_length_add_append]
theorem flat3_drop : ∀ (gs : List (Gp ρ)) (n : Nat), (gs.flatMap Gp.cells).drop (n * 3) = (gs.drop n).flatMap Gp.cells
  | [], n => by simp
  | g :: r, 0 => by simp
  | g :: r, n + 1 => by
    rw [List.flatMap_cons, List.drop_succ_cons, ← flat3_drop r n, show (n + 1) * 3 = 3 + n * 3 by omega, ← List.drop_drop]
    rfl
theorem flat3_one (gs : List (Gp ρ)) : ∀ u ∈ gs.flatMap Gp.cells, u.oneCell' = true := by
  intro u hu
  obtain ⟨g, _, hg⟩ := List.mem_flatMap.1 hu
  simp [Gp.cells] at hg
  rcases hg with rfl | rfl | rfl <;> rfl
theorem Gr.cells3 (h : Gr cs W base k eG eR A c gs) {n g : Nat} (hA : A = some ⟨g, 0, none⟩) (hn : n < gs.length) : W.cell? ⟨g, n * 3, none⟩ = some (.int .i64 gs[n].win) ∧ W.cell? ⟨g, n * 3 + 1, none⟩ = some (.string gs[n].part) := by
  obtain ⟨b, off, e, _, hc⟩ := h.rd.2 (by omega)
  rw [hA] at e
  injection e with e
  injection e with e1 e2 _
  subst e1 e2
  have h0 := hc (n * 3) (.int .i64 gs[n].win) (by rw [fm_get gs _ (by omega), show n * 3 / 3 = n by omega, show n * 3 % 3 = 0 by omega]; simp [Gp.cells, hn])
  have h1 := hc (n * 3 + 1) (.string gs[n].part) (by rw [fm_get gs _ (by omega), show (n * 3 + 1) / 3 = n by omega, show (n * 3 + 1) % 3 = 1 by omega]; simp [Gp.cells, hn])
  rw [Nat.zero_add] at h0 h1
  exact ⟨h0, h1⟩
end
theorem ltK_eq (a b : Int × ByteArray) : ltK a b = (decide (a.1 < b.1) || (decide (a.1 = b.1) && lessS a.2 b.2)) := by
  unfold ltK cmpK cmpI cmpS
  by_cases h1 : a.1 < b.1
  · simp [h1]
  · by_cases h2 : b.1 < a.1
    · have : ¬ a.1 = b.1 := by omega
      simp [h1, h2, this]
    · have h3 : a.1 = b.1 := by omega
      rw [if_neg h1, if_neg h2, if_pos rfl, decide_eq_false h1, decide_eq_true h3, Bool.false_or, Bool.true_and]
      cases h4 : lessS a.2 b.2
      · cases h5 : lessS b.2 a.2 <;> simp [h5]
      · simp
/-- The first group that isn't below the key. -/
def Lim (q : Int) (pt : ByteArray) (gs : List (Gp Rw)) (n : Nat) : Prop := ∀ i (hi : i < gs.length), i < n → ltK (gs[i].win, gs[i].part) (q, pt) = true
theorem Lim.next {q : Int} {pt : ByteArray} {gs : List (Gp Rw)} {n : Nat} (h : Lim q pt gs n) (hn : n < gs.length) (h1 : ltK (gs[n].win, gs[n].part) (q, pt) = true) : Lim q pt gs (n + 1) := fun i hi h2 => by
  rcases Nat.lt_or_ge i n with h3 | h3
  · exact h i hi h3
  · obtain rfl : i = n := by omega
    exact h1
theorem Lim.fst {q : Int} {pt : ByteArray} {gs : List (Gp Rw)} {n : Nat} (h : Lim q pt gs n) (hn : n ≤ gs.length) (h1 : ∀ hn : n < gs.length, ltK (gs[n].win, gs[n].part) (q, pt) = false) : fst_ (notLt ltK (q, pt)) (gs.map prG) = n :=
  fst_is (by simpa using hn) (fun i hi h2 => by
    have := h i (by simpa using hi) h2
    simp [notLt, prG, pr, this]) fun h2 => by
    have := h1 (by simpa using h2)
    simp [notLt, prG, pr, this]
section
variable {key : Rw → Int × ByteArray} {gs : List (Gp Rw)} {x : Rw} {n : Nat}
theorem oneR_old (hf : fst_ (notLt ltK (key x)) (gs.map prG) = n) (hn : n < gs.length) (hk : (gs[n].win, gs[n].part) = key x) : ∀ A c, (gs.set n ⟨gs[n].win, gs[n].part, A, c, gs[n].rows ++ [x]⟩).map prG = stepR key ltK (gs.map prG) x := fun A c => by
  have h1 : n < (gs.map prG).length := by simpa using hn
  have h2 : ((gs.map prG)[n]?.map Prod.fst) = some (key x) := by
    rw [List.getElem?_eq_getElem h1]
    simp [prG, pr, hk]
  unfold stepR addTo
  rw [hf, if_pos h2, List.getElem?_eq_getElem h1]
  exact prG_set hn A c x
theorem oneR_new (hf : fst_ (notLt ltK (key x)) (gs.map prG) = n) (hn : n ≤ gs.length) (hk : ∀ hn : n < gs.length, (gs[n].win, gs[n].part) ≠ key x) {gs' : List (Gp Rw)} (hg : gs' = gs.take n ++ ⟨(key x).1, (key x).2, none, 0, []⟩ :: gs.drop n) :
    ∃ hn' : n < gs'.length, gs'[n].rows = [] ∧ ∀ A c, (gs'.set n ⟨gs'[n].win, gs'[n].part, A, c, gs'[n].rows ++ [x]⟩).map prG = stepR key ltK (gs.map prG) x := by
  have hl : (gs.take n).length = n := by rw [List.length_take]; omega
  have hn' : n < gs'.length := by rw [hg, List.length_append, hl, List.length_cons]; omega
  have he : gs'[n]? = some ⟨(key x).1, (key x).2, none, 0, []⟩ := by
    rw [hg, List.getElem?_append_right (by omega), hl, Nat.sub_self]
    rfl
  have he2 : gs'[n] = ⟨(key x).1, (key x).2, none, 0, []⟩ := by rw [List.getElem?_eq_getElem hn'] at he; injection he
  refine ⟨hn', by rw [he2], fun A c => ?_⟩
  have h2 : ¬ ((gs.map prG)[n]?.map Prod.fst) = some (key x) := by
    rcases Nat.lt_or_ge n gs.length with h | h
    · rw [List.getElem?_eq_getElem (by simpa using h)]
      have := hk h
      simpa [prG, pr] using this
    · rw [List.getElem?_eq_none (by simpa using h)]
      simp
  have hm : gs'.map prG = (gs.map prG).take n ++ (key x, []) :: (gs.map prG).drop n := by
    rw [hg, List.map_append, List.map_cons, List.map_take, List.map_drop]
    rfl
  unfold stepR addTo
  rw [hf, if_neg h2, prG_set hn', ← hm, List.getElem?_eq_getElem (by simpa using hn')]
end
theorem foldR_take {key : Rw → Int × ByteArray} {S : List Rw} {k : Nat} (hk : k < S.length) : foldR key ltK (S.take (k + 1)) = stepR key ltK (foldR key ltK (S.take k)) (Sr.gt S k) := by
  unfold foldR
  rw [List.take_succ_eq_append_getElem hk, List.foldl_append, Sr.gt_eq hk]
  rfl
theorem foldR_len {key : Rw → Int × ByteArray} {S : List Rw} {gs : List (Gp Rw)} {k : Nat} (h : gs.map prG = foldR key ltK (S.take k)) : gs.length ≤ k ∧ ∀ g ∈ gs, g.rows.length ≤ k := by
  have hI := (foldR_go (key := key) swoK.irr swoK.trans totK (S.take k) [] [] Inv.nil List.Pairwise.nil).1
  rw [List.nil_append, show List.foldl (stepR key ltK) [] (S.take k) = foldR key ltK (S.take k) from rfl, ← h] at hI
  have hlen : (S.take k).length ≤ k := List.length_take_le _ _
  exact inv_len hI hlen
end Go.Proofs.Ytennddlihcamnaa.Sp
