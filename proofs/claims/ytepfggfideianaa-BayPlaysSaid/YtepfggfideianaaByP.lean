/- Keyed things: counts, queues, what is drained, the fullest (plain laws, chapter 15). -/
import Derived.Test.YtepfggfideianaaKeys
namespace Go.Proofs.Ytepfggfideianaa
open Go.RowKit

namespace By
abbrev KX := ByteArray × Int
def cnt (L : List KX) (k : ByteArray) : Nat := (L.filter fun x => decide (x.1 = k)).length
def que (L : List KX) (k : ByteArray) : List Int := (L.filter fun x => decide (x.1 = k)).map (·.2)
theorem que_len (L : List KX) (k : ByteArray) : (que L k).length = cnt L k := by simp [que, cnt]
theorem cnt_app (L M : List KX) (k : ByteArray) : cnt (L ++ M) k = cnt L k + cnt M k := by simp [cnt]
theorem que_app (L M : List KX) (k : ByteArray) : que (L ++ M) k = que L k ++ que M k := by simp [que]
theorem cnt_le (L : List KX) (k : ByteArray) : cnt L k ≤ L.length := List.length_filter_le _ _
theorem cnt_one (x : KX) (k : ByteArray) : cnt [x] k = if x.1 = k then 1 else 0 := by
  unfold cnt
  by_cases h : x.1 = k <;> simp [h]
theorem que_one (x : KX) (k : ByteArray) : que [x] k = if x.1 = k then [x.2] else [] := by
  unfold que
  by_cases h : x.1 = k <;> simp [h]
theorem cnt_cons (x : KX) (L : List KX) (k : ByteArray) : cnt (x :: L) k = (if x.1 = k then 1 else 0) + cnt L k := by
  rw [← List.singleton_append, cnt_app, cnt_one]
theorem cnt_pos {L : List KX} {x : KX} (h : x ∈ L) : 0 < cnt L x.1 := List.length_pos_of_mem (List.mem_filter.2 ⟨h, by simp⟩)
theorem cnt_zero {L : List KX} {k : ByteArray} (h : ∀ x ∈ L, x.1 ≠ k) : cnt L k = 0 := by
  unfold cnt
  rw [List.length_eq_zero_iff, List.filter_eq_nil_iff]
  exact fun x hx => by simpa using h x hx
theorem que_nil {L : List KX} {k : ByteArray} (h : ∀ x ∈ L, x.1 ≠ k) : que L k = [] := List.eq_nil_of_length_eq_zero (by rw [que_len, cnt_zero h])

/-! ### sums over the boxes -/
def sumN (l : List Nat) : Nat := l.foldr (· + ·) 0
theorem sumN_cons (a : Nat) (l : List Nat) : sumN (a :: l) = a + sumN l := rfl
section
variable {κ β : Type}
abbrev Nd (m : List (κ × β)) : Prop := m.Pairwise fun p q => p.1 ≠ q.1
theorem nd_eq : ∀ {m : List (κ × β)}, Nd m → ∀ {p q}, p ∈ m → q ∈ m → p.1 = q.1 → p = q
  | [], _, _, _, h, _, _ => by cases h
  | a :: r, hn, p, q, hp, hq, e => by
    obtain ⟨h1, h2⟩ := List.pairwise_cons.1 hn
    rcases List.mem_cons.1 hp with rfl | hp'
    · rcases List.mem_cons.1 hq with rfl | hq'
      · rfl
      · exact absurd e (h1 q hq')
    · rcases List.mem_cons.1 hq with rfl | hq'
      · exact absurd e.symm (h1 p hp')
      · exact nd_eq h2 hp' hq' e
variable [DecidableEq κ]
theorem mdel_none {m : List (κ × β)} {k : κ} (h : ∀ p ∈ m, p.1 ≠ k) : mdel m k = m := List.filter_eq_self.2 fun p hp => by simpa using h p hp
theorem sum_mdel (f : κ × β → Nat) : ∀ {m : List (κ × β)}, Nd m → ∀ {p}, p ∈ m → sumN (m.map f) = f p + sumN ((mdel m p.1).map f)
  | [], _, _, h => by cases h
  | a :: r, hn, p, h => by
    obtain ⟨h1, h2⟩ := List.pairwise_cons.1 hn
    rw [List.map_cons, sumN_cons]
    unfold mdel
    rw [List.filter_cons]
    rcases List.mem_cons.1 h with rfl | h
    · rw [if_neg (by simp), show r.filter (fun q => decide (q.1 ≠ p.1)) = mdel r p.1 from rfl, mdel_none (fun q hq => (h1 q hq).symm)]
    · rw [if_pos (by simpa using h1 p h), List.map_cons, sumN_cons, sum_mdel f h2 h]
      unfold mdel
      omega
theorem Nd.mdel {m : List (κ × β)} (h : Nd m) (k : κ) : Nd (mdel m k) := h.filter _
theorem mem_mdel {m : List (κ × β)} {k : κ} {p : κ × β} : p ∈ mdel m k ↔ p ∈ m ∧ p.1 ≠ k := by unfold mdel; rw [List.mem_filter]; simp
theorem mget_of_mem {m : List (κ × β)} (h : Nd m) {k : κ} {v : β} (hm : (k, v) ∈ m) : mget m k = some v := by
  cases hg : mget m k with
  | none => exact absurd rfl (mget_none.1 hg _ hm)
  | some u =>
    have := nd_eq h (mget_mem hg) hm rfl
    injection this with _ this
    rw [this]
end

/-- Each thing's key has a box. -/
def Held (L : List KX) (m : List (ByteArray × Nat)) : Prop := ∀ x ∈ L, ∃ p ∈ m, p.1 = x.1
theorem sum_hit {m : List (ByteArray × Nat)} (hn : Nd m) {k : ByteArray} (h : ∃ p ∈ m, p.1 = k) : sumN (m.map fun p => if k = p.1 then 1 else 0) = 1 := by
  obtain ⟨p, hp, rfl⟩ := h
  rw [sum_mdel _ hn hp, if_pos rfl]
  have : ∀ l : List (ByteArray × Nat), (∀ q ∈ l, q.1 ≠ p.1) → sumN (l.map fun q => if p.1 = q.1 then 1 else 0) = 0 := by
    intro l
    induction l with
    | nil => exact fun _ => rfl
    | cons a r ih => exact fun h => by rw [List.map_cons, sumN_cons, if_neg (fun e => h a List.mem_cons_self e.symm), ih (fun q hq => h q (List.mem_cons_of_mem _ hq))]
  rw [this _ (fun q hq => (mem_mdel.1 hq).2)]
theorem sum_add (f g : ByteArray × Nat → Nat) : ∀ m : List (ByteArray × Nat), sumN (m.map fun p => f p + g p) = sumN (m.map f) + sumN (m.map g)
  | [] => rfl
  | a :: r => by rw [List.map_cons, List.map_cons, List.map_cons, sumN_cons, sumN_cons, sumN_cons, sum_add f g r]; omega
theorem sum_len {m : List (ByteArray × Nat)} (hn : Nd m) : ∀ {L : List KX}, Held L m → sumN (m.map fun p => cnt L p.1) = L.length
  | [], _ => by
    have : ∀ l : List (ByteArray × Nat), sumN (l.map fun p => cnt [] p.1) = 0 := fun l => by
      induction l with
      | nil => rfl
      | cons a r ih => rw [List.map_cons, sumN_cons, ih]; rfl
    exact this m
  | x :: L, h => by
    have e : (fun p : ByteArray × Nat => cnt (x :: L) p.1) = fun p => (if x.1 = p.1 then 1 else 0) + cnt L p.1 := by
      funext p; exact cnt_cons x L p.1
    rw [e, sum_add, sum_len hn (fun y hy => h y (List.mem_cons_of_mem _ hy)), sum_hit hn (h x List.mem_cons_self), List.length_cons]
    omega

/-! ### the fullest -/
def Most (l : List Nat) (n : Nat) : Prop := (∀ x ∈ l, x ≤ n) ∧ (n = 0 ∨ n ∈ l)
theorem Most.eq {l l' : List Nat} {n n' : Nat} (h : Most l n) (h' : Most l' n') (h1 : ∀ x ∈ l, x = 0 ∨ x ∈ l') (h2 : ∀ x ∈ l', x = 0 ∨ x ∈ l) : n = n' := by
  have a : n ≤ n' := by
    rcases h.2 with e | e
    · omega
    · rcases h1 n e with e | e
      · omega
      · exact h'.1 n e
  have b : n' ≤ n := by
    rcases h'.2 with e | e
    · omega
    · rcases h2 n' e with e | e
      · omega
      · exact h.1 n' e
  omega
theorem most_same {L : List KX} {m : List (ByteArray × Nat)} (h : Held L m) {n n' : Nat} (h1 : Most (m.map fun p => cnt L p.1) n) (h2 : Most (L.map fun x => cnt L x.1) n') : n = n' := by
  refine h1.eq h2 (fun x hx => ?_) fun x hx => ?_
  · obtain ⟨p, hp, rfl⟩ := List.mem_map.1 hx
    rcases Nat.eq_zero_or_pos (cnt L p.1) with e | e
    · exact .inl e
    · obtain ⟨y, hy⟩ := List.exists_mem_of_length_pos e
      obtain ⟨hy1, hy2⟩ := List.mem_filter.1 hy
      exact .inr (List.mem_map.2 ⟨y, hy1, by rw [show y.1 = p.1 by simpa using hy2]⟩)
  · obtain ⟨y, hy, rfl⟩ := List.mem_map.1 hx
    obtain ⟨p, hp, e⟩ := h y hy
    exact .inr (List.mem_map.2 ⟨p, hp, by rw [e]⟩)

/-! ### drained: by rising keys -/
def SrtK (l : List KX) : Prop := l.Pairwise fun a b => ltS b.1 a.1 = false
def sel (L : List KX) (k : ByteArray) : List KX := L.filter fun x => decide (x.1 = k)
theorem sel_app (L M : List KX) (k : ByteArray) : sel (L ++ M) k = sel L k ++ sel M k := List.filter_append ..
theorem sel_eq (L : List KX) (k : ByteArray) : sel L k = (que L k).map fun x => (k, x) := by
  unfold sel que
  rw [List.map_map]
  conv => lhs; rw [← List.map_id (List.filter _ L)]
  refine List.map_congr_left fun x hx => ?_
  have : x.1 = k := by simpa using (List.mem_filter.1 hx).2
  exact Prod.ext this rfl
theorem srt_eq : ∀ {a b : List KX}, SrtK a → SrtK b → (∀ k, sel a k = sel b k) → a = b
  | [], [], _, _, _ => rfl
  | [], y :: b, _, _, h => by
    have := h y.1
    simp [sel] at this
  | x :: a, [], _, _, h => by
    have := h x.1
    simp [sel] at this
  | x :: a, y :: b, ha, hb, h => by
    obtain ⟨ha1, ha2⟩ := List.pairwise_cons.1 ha
    obtain ⟨hb1, hb2⟩ := List.pairwise_cons.1 hb
    have hy : y ∈ x :: a := by
      have : y ∈ sel (y :: b) y.1 := List.mem_filter.2 ⟨List.mem_cons_self, by simp⟩
      rw [← h] at this
      exact (List.mem_filter.1 this).1
    have hx : x ∈ y :: b := by
      have : x ∈ sel (x :: a) x.1 := List.mem_filter.2 ⟨List.mem_cons_self, by simp⟩
      rw [h] at this
      exact (List.mem_filter.1 this).1
    have e1 : ltS y.1 x.1 = false := by
      rcases List.mem_cons.1 hy with e | e
      · rw [e]; exact ltS_irr _
      · exact ha1 y e
    have e2 : ltS x.1 y.1 = false := by
      rcases List.mem_cons.1 hx with e | e
      · rw [e]; exact ltS_irr _
      · exact hb1 x e
    have ek := ltS_anti e1 e2
    have h0 := h x.1
    unfold sel at h0
    rw [List.filter_cons, List.filter_cons, if_pos (by simp), if_pos (by simp [ek])] at h0
    injection h0 with h1 h2
    subst h1
    congr 1
    refine srt_eq ha2 hb2 fun k => ?_
    have h3 := h k
    unfold sel at h3 ⊢
    rw [List.filter_cons, List.filter_cons] at h3
    split at h3
    · injection h3
    · exact h3
/-- Box by box. -/
def drn (m : List (ByteArray × Nat)) (L : List KX) : List KX := m.flatMap fun p => sel L p.1
theorem drn_srt {m : List (ByteArray × Nat)} (hm : m.Pairwise fun p q => ltS p.1 q.1 = true) (L : List KX) : SrtK (drn m L) := by
  unfold SrtK drn
  rw [List.pairwise_flatMap]
  refine ⟨fun p _ => ?_, hm.imp fun {p q} hpq x hx y hy => ?_⟩
  · refine List.pairwise_of_forall_mem_list fun x hx y hy => ?_
    have e1 : x.1 = p.1 := by simpa using (List.mem_filter.1 hx).2
    have e2 : y.1 = p.1 := by simpa using (List.mem_filter.1 hy).2
    rw [e1, e2]; exact ltS_irr _
  · have e1 : x.1 = p.1 := by simpa using (List.mem_filter.1 hx).2
    have e2 : y.1 = q.1 := by simpa using (List.mem_filter.1 hy).2
    rw [e1, e2]; exact ltS_asym hpq
theorem sel_sel (L : List KX) (k k' : ByteArray) : sel (sel L k) k' = if k = k' then sel L k' else [] := by
  unfold sel
  rw [List.filter_filter]
  split
  · next e => subst e; exact List.filter_congr fun x _ => by simp
  · next e =>
    rw [List.filter_eq_nil_iff]
    intro x _ hx
    simp at hx
    exact e (hx.2.symm.trans hx.1)
theorem drn_sel {m : List (ByteArray × Nat)} (hn : Nd m) {L : List KX} (h : Held L m) (k : ByteArray) : sel (drn m L) k = sel L k := by
  have e : sel (drn m L) k = m.flatMap fun p => if p.1 = k then sel L k else [] := by
    show List.filter _ (m.flatMap _) = _
    rw [List.filter_flatMap]
    congr 1
    funext p
    exact sel_sel L p.1 k
  rw [e]
  have hz : ∀ l : List (ByteArray × Nat), (∀ q ∈ l, q.1 ≠ k) → (l.flatMap fun p => if p.1 = k then sel L k else []) = [] := fun l hl => by
    rw [List.flatMap_eq_nil_iff]
    exact fun q hq => if_neg (hl q hq)
  by_cases hk : ∃ p ∈ m, p.1 = k
  · obtain ⟨p, hp, hpk⟩ := hk
    obtain ⟨a, c, rfl⟩ := List.append_of_mem hp
    obtain ⟨h1, h2, h3⟩ := List.pairwise_append.1 hn
    obtain ⟨h4, h5⟩ := List.pairwise_cons.1 h2
    rw [List.flatMap_append, List.flatMap_cons, hz a (fun q hq e => h3 q hq p List.mem_cons_self (e.trans hpk.symm)), hz c (fun q hq e => h4 q hq (hpk.trans e.symm)), if_pos hpk]
    simp
  · rw [hz m (fun q hq e => hk ⟨q, hq, e⟩)]
    symm
    unfold sel
    rw [List.filter_eq_nil_iff]
    intro x hx hxk
    obtain ⟨p, hp, e⟩ := h x hx
    exact hk ⟨p, hp, by rw [e]; simpa using hxk⟩
theorem drn_eq {m : List (ByteArray × Nat)} (hm : m.Pairwise fun p q => ltS p.1 q.1 = true) {L : List KX} (h : Held L m) {o : List KX} (ho : SrtK o) (hs : ∀ k, sel o k = sel L k) : drn m L = o :=
  srt_eq (drn_srt hm L) ho fun k => by
    rw [drn_sel (hm.imp fun {p q} hpq e => by rw [e, ltS_irr] at hpq; cases hpq) h k, hs k]
/-- The document's insertion: behind all that don't come after. -/
theorem ins_srt {a c : List KX} {x : KX} (h : SrtK (a ++ c)) (h1 : ∀ y ∈ c, ltS x.1 y.1 = true) (h2 : ∀ y, a.getLast? = some y → ltS x.1 y.1 = false) : SrtK (a ++ [x] ++ c) := by
  obtain ⟨ha, hc, hac⟩ := List.pairwise_append.1 h
  have hax : ∀ y ∈ a, ltS x.1 y.1 = false := fun y hy => by
    rcases List.eq_nil_or_concat a with rfl | ⟨b, z, rfl⟩
    · cases hy
    · rw [List.concat_eq_append] at ha hy
      have hz := h2 z (by simp)
      rcases List.mem_append.1 hy with hy | hy
      · have := (List.pairwise_append.1 ha).2.2 y hy z (by simp)
        exact leS_trans this hz
      · rw [List.mem_singleton] at hy; rw [hy]; exact hz
  refine List.pairwise_append.2 ⟨List.pairwise_append.2 ⟨ha, List.pairwise_singleton _ _, fun y hy z hz => ?_⟩, hc, fun y hy z hz => ?_⟩
  · rw [List.mem_singleton] at hz; rw [hz]; exact hax y hy
  · rcases List.mem_append.1 hy with hy | hy
    · exact hac y hy z hz
    · rw [List.mem_singleton] at hy; rw [hy]; exact ltS_asym (h1 z hz)
theorem ins_sel {a c : List KX} {x : KX} (h1 : ∀ y ∈ c, ltS x.1 y.1 = true) (k : ByteArray) : sel (a ++ [x] ++ c) k = sel (a ++ c) k ++ sel [x] k := by
  rw [sel_app, sel_app, sel_app]
  by_cases e : x.1 = k
  · have : sel c k = [] := by
      unfold sel
      rw [List.filter_eq_nil_iff]
      intro y hy hyk
      have := h1 y hy
      rw [e, show y.1 = k by simpa using hyk, ltS_irr] at this
      cases this
    rw [this]; simp
  · have : sel [x] k = [] := by simp [sel, e]
    rw [this]; simp
end By
end Go.Proofs.Ytepfggfideianaa
