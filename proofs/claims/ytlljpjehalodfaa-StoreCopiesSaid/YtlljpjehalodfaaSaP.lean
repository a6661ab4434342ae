/- An upload's number is at least one (chapter 14; plain). -/
import Derived.Test.YtlljpjehalodfaaProg
import Derived.Test.YtlljpjehalodfaaSaE
namespace Go.Proofs.Ytlljpjehalodfaa
open Go.RowKit
namespace St

def PJ (s : PS) : Prop := ∀ p ∈ s.ups, 1 ≤ p.1
theorem PJ.empty (g : Nat) : PJ (emptyLS g).pure := fun p hp => by cases hp
theorem PJ.made {s : PS} (h : PJ s) (k : ByteArray) (d : Bs) : PJ (s.made k d) := h
theorem PJ.closed {s : PS} (h : PJ s) (id : Int) (u : PU) : PJ (s.closed id u) := fun p hp => h p (mdel_sub hp)
theorem PJ.step {s : PS} (h : PJ s) (h0 : 0 ≤ s.id) (c : PC) : PJ (s.step c).1 := by
  unfold PS.step
  split
  · unfold PS.put
    split
    · exact h.made _ _
    · exact h
  split
  · exact h
  split
  · exact h
  split
  · exact h
  split
  · unfold PS.create
    split
    · intro p hp
      rcases mput_mem.1 hp with rfl | ⟨hp, _⟩
      · show 1 ≤ s.id + 1
        omega
      · exact h p hp
    · exact h
  split
  · unfold PS.drop
    split
    · exact h
    · exact h
  split
  · unfold PS.upload
    split
    · exact h
    · rename_i u hu
      split
      · unfold PS.part
        split
        · intro p hp
          rcases mput_mem.1 hp with rfl | ⟨hp, _⟩
          · exact h (c.id, u) (mget_mem hu)
          · exact h p hp
        · exact h
      · split
        · unfold PS.complete
          split
          · exact (h.closed _ _).made _ _
          · exact h
        · exact h.closed _ _
  · exact h
theorem PJ.tick {s : PS} (h : PJ s) (k : Int) : PJ (s.tick k) := by unfold PS.tick; split <;> exact h

/-! ### one upload looked at -/
def clOpen (id : Int) : Cl := ⟨11, .empty, none, 0, [], 0, 0, 0, id⟩
theorem keep_drop : ∀ {l : List Int} {q : Nat} (hq : q < l.length), l.Pairwise (· < ·) → keepF (fun i => decide (i ≤ l[q] - 1)) l = l.drop q
  | a :: r, 0, _, hs => by
    have hs' := List.pairwise_cons.1 hs
    show List.filter _ (a :: r) = a :: r
    refine List.filter_eq_self.2 fun x hx => ?_
    have : a ≤ x := by
      rcases List.mem_cons.1 hx with rfl | hx
      · exact Int.le_refl _
      · have := hs'.1 x hx; omega
    simp
    omega
  | a :: r, q + 1, hq, hs => by
    have hs' := List.pairwise_cons.1 hs
    have hq' : q < r.length := by simpa using hq
    have ha : a < r[q] := hs'.1 _ (List.getElem_mem hq')
    show List.filter _ (a :: r) = r.drop q
    rw [List.filter_cons_of_neg (by simp; omega)]
    exact keep_drop hq' hs'.2
theorem step_open {s : PS} (hs : PSrt s) {q : Nat} (hq : q < s.ups.length) : ∃ rest more, s.step (clOpen (s.ups[q].1 - 1)).pure = (s, ⟨0, [], 0, 0, 0, ⟨s.ups[q].2.key, s.ups[q].1, (s.ups[q].2.sum : Int), s.ups[q].2.born⟩ :: rest, more⟩) := by
  have hq' : q < (s.ups.map fun p => p.1).length := by rw [List.length_map]; exact hq
  have hk := keep_drop hq' (by rw [List.pairwise_map]; exact hs.su)
  have e0 : (s.ups.map fun p => p.1)[q] = s.ups[q].1 := List.getElem_map ..
  rw [e0] at hk
  have hd : (s.ups.map fun p => p.1).drop q = s.ups[q].1 :: (s.ups.map fun p => p.1).drop (q + 1) := by rw [List.drop_eq_getElem_cons hq', e0]
  have hids : s.ids (clOpen (s.ups[q].1 - 1)).pure = s.ups[q].1 :: (s.ups.map fun p => p.1).drop (q + 1) := hk.trans hd
  have hm : mget s.ups s.ups[q].1 = some s.ups[q].2 := mget_of_mem hs.ndu (List.getElem_mem hq)
  refine ⟨((List.drop (q + 1) (s.ups.map fun p => p.1)).take 15).map s.itU, decide (16 < (s.ids (clOpen (s.ups[q].1 - 1)).pure).length), ?_⟩
  rw [kind_step]
  refine (if_neg (by show ¬ ((11 : Int) = 1 ∨ (11 : Int) = 2); omega)).trans ((if_neg (by show ¬ ((11 : Int) = 3 ∨ (11 : Int) = 4); omega)).trans ((if_neg (by show ¬ ((11 : Int) = 5); omega)).trans ((if_pos rfl).trans ?_)))
  unfold PS.opened
  have hl : ((s.ids (clOpen (s.ups[q].1 - 1)).pure).take 16).map s.itU = s.itU s.ups[q].1 :: ((List.drop (q + 1) (s.ups.map fun p => p.1)).take 15).map s.itU := by rw [hids]; rfl
  rw [hl]
  have hi : s.itU s.ups[q].1 = ⟨s.ups[q].2.key, s.ups[q].1, (s.ups[q].2.sum : Int), s.ups[q].2.born⟩ := by unfold PS.itU; rw [hm]; rfl
  rw [hi]
theorem open_live (w : World) {L : LS} {n : Nat} (h : At w L) (hi : PInv L.pure n) (hn : n ≤ 1000000) (hj : PJ L.pure) {q : Nat} (hq : q < L.pure.ups.length) :
    Calls Try.prog 12 #[.pointer (some ⟨L.gs, 0, none⟩), .agg #[.int .i64 11, .string ⟨#[]⟩, .slice none 0 0, .int .i64 0, .int .i64 0, .int .i64 0, .int .i64 (L.pure.ups[q].1 - 1)]] w fun e w' => ∃ A c b off m cl more, e = .returned (.agg #[.int .i64 0, .slice A 0 c, .int .i64 0, .int .i64 0, .int .i64 0, .slice (some ⟨b, off, none⟩) (m + 1) cl, .bool more]) ∧ (w'.cell? ⟨b, off, none⟩ = some (.string L.pure.ups[q].2.key) ∧ w'.cell? ⟨b, off + 1, none⟩ = some (.int .i64 L.pure.ups[q].1) ∧ w'.cell? ⟨b, off + 2, none⟩ = some (.int .i64 (L.pure.ups[q].2.sum : Int))) ∧ b < w'.heap.size ∧ At w' L ∧ Below w.heap.size w w' := by
  obtain ⟨rest, more, hst⟩ := step_open h.srt hq
  have h1 := hj _ (List.getElem_mem hq)
  have hu := hi.ui _ (List.getElem_mem hq)
  have hi1 := hi.i1
  refine (do_live w (x := clOpen (L.pure.ups[q].1 - 1)) h hi hn (dat_nil _ _) ⟨by show 0 ≤ maxLen; omega, by show 0 ≤ _; omega, w0_, wfI (by show _ ≤ L.pure.ups[q].1 - 1; omega) (by show L.pure.ups[q].1 - 1 ≤ _; omega)⟩).mono ?_
  rintro e w' ⟨L', v, rfl, hr, hs, -⟩
  have e := hs.same (.inr (.inr (.inr rfl)))
  subst e
  rw [hst] at hr
  obtain ⟨A, c, Al, cl, hv, -, hown⟩ := hr
  dsimp only [List.length_cons] at hv hown
  obtain ⟨b, off, e, hb, hc⟩ := (Reads.of_own hown).2 (by omega)
  subst e
  refine ⟨A, c, b, off, rest.length, cl, more, by rw [hv]; rfl, ⟨?_, ?_, ?_⟩, hb, hs.at_, hs.quiet (.inr (.inr (.inr rfl)))⟩
  · exact hc 0 _ rfl
  · exact hc 1 _ rfl
  · exact hc 2 _ rfl
end St
end Go.Proofs.Ytlljpjehalodfaa
