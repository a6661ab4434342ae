/- The document's store, without memory, is the program's (chapter 14; plain laws). -/
import Derived.Test.YtlljpjehalodfaaGreatProg
import Derived.Test.YtlljpjehalodfaaGreatPlF
import Derived.Test.YtlljpjehalodfaaGreatStZ
namespace Go.Proofs.YtlljpjehalodfaaGreat
open Go.RowKit
namespace Rf
open St

section
variable {κ β : Type}
theorem mins_at {lt : κ → κ → Bool} {p : κ × β} : ∀ {A B : List (κ × β)}, (∀ a ∈ A, lt p.1 a.1 = false) → (∀ b ∈ B, lt p.1 b.1 = true) → mins lt p (A ++ B) = A ++ p :: B
  | [], [], _, _ => rfl
  | [], b :: B, _, h => by
    show mins lt p (b :: B) = p :: b :: B
    rw [mins, if_pos (h b List.mem_cons_self)]
  | a :: A, B, h, h' => by
    show mins lt p (a :: (A ++ B)) = a :: (A ++ p :: B)
    rw [mins, if_neg (by rw [h a List.mem_cons_self]; decide), mins_at (fun x hx => h x (List.mem_cons_of_mem _ hx)) h']
variable [DecidableEq κ]
theorem mdel_at {lt : κ → κ → Bool} (hne : ∀ {x y : κ}, lt x y = true → x ≠ y) : ∀ {l : List (κ × β)} {i : Nat} (hi : i < l.length), l.Pairwise (fun p q => lt p.1 q.1 = true) → mdel l l[i].1 = l.take i ++ l.drop (i + 1)
  | a :: r, 0, _, hs => by
    have hs' := List.pairwise_cons.1 hs
    unfold mdel
    rw [List.getElem_cons_zero, List.filter_cons_of_neg (by simp)]
    refine List.filter_eq_self.2 fun q hq => ?_
    have h1 := hne (hs'.1 q hq)
    simpa using fun e => h1 e.symm
  | a :: r, i + 1, hi, hs => by
    have hs' := List.pairwise_cons.1 hs
    have hi' : i < r.length := by simpa using hi
    have ih := mdel_at hne hi' hs'.2
    unfold mdel at ih ⊢
    rw [List.getElem_cons_succ, List.filter_cons_of_pos (by simpa using hne (hs'.1 _ (List.getElem_mem hi'))), ih]
    rfl
theorem mput_at {lt : κ → κ → Bool} (hne : ∀ {x y : κ}, lt x y = true → x ≠ y) (has : ∀ {x y : κ}, lt x y = true → lt y x = false) {l : List (κ × β)} {i : Nat} (hi : i < l.length) (hs : l.Pairwise (fun p q => lt p.1 q.1 = true)) (v : β) : mput lt l l[i].1 v = l.set i (l[i].1, v) := by
  unfold mput
  rw [mdel_at hne hi hs, mins_at, List.set_eq_take_append_cons_drop, if_pos hi]
  · intro a ha
    obtain ⟨j, hj, rfl⟩ := List.getElem_of_mem ha
    rw [List.length_take] at hj
    rw [List.getElem_take]
    exact has (List.pairwise_iff_getElem.1 hs j i (by omega) hi (by omega))
  · intro b hb
    obtain ⟨j, hj, rfl⟩ := List.getElem_of_mem hb
    rw [List.length_drop] at hj
    rw [List.getElem_drop]
    exact List.pairwise_iff_getElem.1 hs i (i + 1 + j) hi (by omega) (by omega)
theorem mput_last {lt : κ → κ → Bool} {l : List (κ × β)} {k : κ} {v : β} (h : ∀ p ∈ l, p.1 ≠ k) (h' : ∀ p ∈ l, lt k p.1 = false) : mput lt l k v = l ++ [(k, v)] := by
  unfold mput
  rw [mdel_none (mget_none.2 h)]
  have := mins_at (lt := lt) (p := (k, v)) (A := l) (B := []) h' (fun b hb => by cases hb)
  rwa [List.append_nil] at this
end
def Ro.po (o : Ro) : PO := ⟨o.d, o.ver, o.born⟩
def Ro.pure (o : Ro) : ByteArray × PO := (o.key, o.po)
def Rp.pure (p : Rp) : Int × Bs := (p.n, p.d)
structure SimU (u : Ru) (p : Int × PU) : Prop where
  id : u.id = p.1
  key : u.key = p.2.key
  born : u.born = p.2.born
  parts : (u.parts.map Rp.pure).Perm p.2.parts
inductive All2 {α β : Type} (r : α → β → Prop) : List α → List β → Prop
  | nil : All2 r [] []
  | cons {a : α} {b : β} {l : List α} {m : List β} : r a b → All2 r l m → All2 r (a :: l) (b :: m)
section
variable {α β : Type} {r : α → β → Prop}
theorem All2.len {l : List α} {m : List β} (h : All2 r l m) : l.length = m.length := by
  induction h with
  | nil => rfl
  | cons _ _ ih => rw [List.length_cons, List.length_cons, ih]
theorem All2.get {l : List α} {m : List β} (h : All2 r l m) : ∀ {i : Nat} (h1 : i < l.length) (h2 : i < m.length), r l[i] m[i] := by
  induction h with
  | nil => intro i h1; cases h1
  | cons ha _ ih =>
    intro i h1 h2
    cases i with
    | zero => exact ha
    | succ i => exact ih (by simpa using h1) (by simpa using h2)
theorem All2.set {l : List α} {m : List β} (h : All2 r l m) {a : α} {b : β} (hr : r a b) : ∀ i, All2 r (l.set i a) (m.set i b) := by
  induction h with
  | nil => intro i; exact .nil
  | cons ha hl ih =>
    intro i
    cases i with
    | zero => exact .cons hr hl
    | succ i => exact .cons ha (ih i)
theorem All2.snoc {l : List α} {m : List β} (h : All2 r l m) {a : α} {b : β} (hr : r a b) : All2 r (l ++ [a]) (m ++ [b]) := by
  induction h with
  | nil => exact .cons hr .nil
  | cons ha _ ih => exact .cons ha ih
theorem All2.cut {l : List α} {m : List β} (h : All2 r l m) : ∀ i, All2 r (l.take i ++ l.drop (i + 1)) (m.take i ++ m.drop (i + 1)) := by
  induction h with
  | nil => intro i; simp; exact .nil
  | cons ha hl ih =>
    intro i
    cases i with
    | zero => exact hl
    | succ i => exact .cons ha (ih i)
end
structure Sim (R : RS) (s : PS) : Prop where
  objs : R.objs.map Ro.pure = s.objs
  ups : All2 SimU R.ups s.ups
  ver : R.ver = s.ver
  id : R.id = s.id
  now : R.now = s.now
section
variable {R : RS} {s : PS} {k : ByteArray}
theorem keyIs_iff {k : ByteArray} {o : Ro} : keyIs k o = true ↔ o.key = k := by
  unfold keyIs
  rw [beq_iff_eq]
  constructor
  · intro h
    rw [ByteArray.toList_eq, ByteArray.toList_eq] at h
    cases h1 : o.key; cases h2 : k
    rw [h1, h2] at h
    congr 1
    exact Array.ext' h
  · intro h; rw [h]
theorem Sim.idxO (h : Sim R s) (hs : PSrt s) (k : ByteArray) : (R.idxO k = -1 ∧ mget s.objs k = none) ∨ ∃ i, i < R.objs.length ∧ R.idxO k = (i : Int) ∧ mget s.objs k = some (go R.objs i).po ∧ (go R.objs i).key = k := by
  rcases idxF_spec (p := keyIs k) R.objs 0 with ⟨h1, h2⟩ | ⟨i, hi, h1, h2⟩
  · refine .inl ⟨h1, mget_none.2 fun p hp => ?_⟩
    rw [← h.objs] at hp
    obtain ⟨o, ho, rfl⟩ := List.mem_map.1 hp
    intro e
    have := h2 o ho
    rw [keyIs_iff.2 e] at this; cases this
  · refine .inr ⟨i, hi, by unfold RS.idxO; rw [h1, Nat.zero_add], ?_, by rw [← go_eq hi]; exact keyIs_iff.1 h2⟩
    refine mget_of_mem hs.ndo ?_
    rw [← h.objs, ← keyIs_iff.1 h2]
    exact List.mem_map.2 ⟨R.objs[i], List.getElem_mem hi, by rw [go_eq hi]; rfl⟩
theorem Sim.idxU (h : Sim R s) (hs : PSrt s) (n : Int) : (R.idxU n = -1 ∧ mget s.ups n = none) ∨ ∃ i u, i < R.ups.length ∧ R.idxU n = (i : Int) ∧ mget s.ups n = some u ∧ SimU (gu R.ups i) (n, u) ∧ ∃ hi : i < s.ups.length, s.ups[i] = (n, u) := by
  have hl := h.ups.len
  rcases idxF_spec (p := idIs n) R.ups 0 with ⟨h1, h2⟩ | ⟨i, hi, h1, h2⟩
  · refine .inl ⟨h1, mget_none.2 fun p hp => ?_⟩
    obtain ⟨i, hi, rfl⟩ := List.getElem_of_mem hp
    have hg := h.ups.get (i := i) (by omega) hi
    have := h2 _ (List.getElem_mem (by omega : i < R.ups.length))
    unfold idIs at this
    rw [hg.id] at this
    simpa using this
  · have hg := h.ups.get (i := i) hi (by omega)
    have e : (R.ups[i]).id = n := by unfold idIs at h2; simpa using h2
    have hpair : s.ups[i]'(by omega) = (n, (s.ups[i]'(by omega)).2) := Prod.ext (hg.id.symm.trans e) rfl
    refine .inr ⟨i, (s.ups[i]'(by omega)).2, hi, by unfold RS.idxU; rw [h1, Nat.zero_add], ?_, ?_, by omega, ?_⟩
    · refine mget_of_mem hs.ndu ?_
      rw [← hpair]
      exact List.getElem_mem (by omega)
    · rw [← gu_eq hi]
      exact ⟨e, hg.key, hg.born, hg.parts⟩
    · exact hpair
theorem insO_mins (o : Ro) : ∀ {l : List Ro}, (∀ x ∈ l, x.key ≠ o.key) → (insO o l).map Ro.pure = mins ltS o.pure (l.map Ro.pure)
  | [], _ => rfl
  | x :: r, h => by
    have hx := h x List.mem_cons_self
    rw [List.map_cons]
    unfold insO mins
    by_cases hlt : ltS x.key o.key = true
    · have h2 : ltS o.pure.1 x.pure.1 = false := ltS_asym hlt
      rw [if_pos hlt, if_neg (by rw [h2]; decide), List.map_cons, insO_mins o fun y hy => h y (List.mem_cons_of_mem _ hy)]
    · have h2 : ltS o.pure.1 x.pure.1 = true := (ltS_tot hx).resolve_left hlt
      rw [if_neg hlt, if_pos h2, List.map_cons, List.map_cons]
theorem ltS_ne {x y : ByteArray} (h : ltS x y = true) : x ≠ y := fun e => by rw [e, ltS_irr] at h; cases h
theorem ltI_ne {x y : Int} (h : ltI x y = true) : x ≠ y := fun e => by unfold ltI at h; simp at h; omega
theorem ltI_asym {x y : Int} (h : ltI x y = true) : ltI y x = false := by unfold ltI at h ⊢; simp at h ⊢; omega
theorem Sim.put (h : Sim R s) (hs : PSrt s) (A : Option Addr) (c : Nat) (d : Bs) (AO : Option Addr) (cO : Nat) : Sim (R.putO ⟨k, A, c, d, R.ver + 1, R.now⟩ AO cO) (s.made k d) := by
  refine ⟨?_, h.ups, by show R.ver + 1 = s.ver + 1; rw [h.ver], h.id, h.now⟩
  show (putL R.objs (R.idxO k) _).map Ro.pure = mput ltS s.objs k ⟨d, s.ver + 1, s.now⟩
  unfold putL
  rcases h.idxO hs k with ⟨h1, h2⟩ | ⟨i, hi, h1, h2, h3⟩
  · rw [h1, if_pos (by decide), insO_mins]
    · unfold mput
      rw [mdel_none h2, ← h.objs, ← h.ver, ← h.now]; rfl
    · intro x hx
      exact mget_none.1 h2 x.pure (by rw [← h.objs]; exact List.mem_map.2 ⟨x, hx, rfl⟩)
  · have hi' : i < s.objs.length := by rw [← h.objs, List.length_map]; exact hi
    have e1 : s.objs[i].1 = k := by
      have : s.objs[i] = (R.objs.map Ro.pure)[i]'(by rw [List.length_map]; exact hi) := by congr 1; exact h.objs.symm
      rw [this, List.getElem_map, go_eq hi]; exact h3
    have e2 := mput_at (fun h => ltS_ne h) (fun h => ltS_asym h) hi' hs.so (⟨d, s.ver + 1, s.now⟩ : PO)
    rw [e1] at e2
    rw [h1, if_neg (by omega), e2, List.map_set, h.objs, Int.toNat_natCast, ← h.ver, ← h.now]; rfl
theorem Sim.dropO (h : Sim R s) (hs : PSrt s) {i : Nat} (hi : i < R.objs.length) (hk : (go R.objs i).key = k) (a : Int) (AO : Option Addr) (cO : Nat) : Sim { R with objs := R.objs.take i ++ R.objs.drop (i + 1), AO := AO, cO := cO } { s with all := a, objs := mdel s.objs k } := by
  have hi' : i < s.objs.length := by rw [← h.objs, List.length_map]; exact hi
  have e1 : s.objs[i].1 = k := by
    have : s.objs[i] = (R.objs.map Ro.pure)[i]'(by rw [List.length_map]; exact hi) := by congr 1; exact h.objs.symm
    rw [this, List.getElem_map, go_eq hi]; exact hk
  have e2 := mdel_at (fun h => ltS_ne h) hi' hs.so
  rw [e1] at e2
  refine ⟨?_, h.ups, h.ver, h.id, h.now⟩
  show (R.objs.take i ++ R.objs.drop (i + 1)).map Ro.pure = mdel s.objs k
  rw [e2, List.map_append, List.map_take, List.map_drop, h.objs]
theorem ltI_srt (hs : PSrt s) : s.ups.Pairwise fun p q => ltI p.1 q.1 = true := hs.su.imp fun h => by unfold ltI; simpa using h
theorem Sim.dropU (h : Sim R s) (hs : PSrt s) {i : Nat} (hi : i < s.ups.length) {n : Int} (hk : s.ups[i].1 = n) (a : Int) (AU : Option Addr) (cU : Nat) : Sim { R with ups := R.ups.take i ++ R.ups.drop (i + 1), AU := AU, cU := cU } { s with all := a, ups := mdel s.ups n } := by
  have e2 := mdel_at (fun h => ltI_ne h) hi (ltI_srt hs)
  rw [hk] at e2
  refine ⟨h.objs, ?_, h.ver, h.id, h.now⟩
  show All2 SimU (R.ups.take i ++ R.ups.drop (i + 1)) (mdel s.ups n)
  rw [e2]
  exact h.ups.cut i
theorem Sim.setU (h : Sim R s) (hs : PSrt s) {i : Nat} (hi : i < s.ups.length) {n : Int} (hk : s.ups[i].1 = n) (a : Int) (AU : Option Addr) (cU : Nat) {u : Ru} {pu : PU} (hu : SimU u (n, pu)) : Sim { R with ups := R.ups.set i u, AU := AU, cU := cU } { s with all := a, ups := mput ltI s.ups n pu } := by
  have e2 := mput_at (fun h => ltI_ne h) (fun h => ltI_asym h) hi (ltI_srt hs) pu
  rw [hk] at e2
  refine ⟨h.objs, ?_, h.ver, h.id, h.now⟩
  show All2 SimU (R.ups.set i u) (mput ltI s.ups n pu)
  rw [e2]
  exact h.ups.set hu i
theorem Sim.create (h : Sim R s) (hid : ∀ p ∈ s.ups, p.1 ≤ s.id) (k : ByteArray) (AU : Option Addr) (cU : Nat) : Sim { R with id := R.id + 1, ups := R.ups ++ [⟨R.id + 1, R.now, k, none, 0, []⟩], AU := AU, cU := cU } { s with id := s.id + 1, ups := mput ltI s.ups (s.id + 1) ⟨k, s.now, []⟩ } := by
  have e2 := mput_last (lt := ltI) (l := s.ups) (k := s.id + 1) (v := (⟨k, s.now, []⟩ : PU)) (fun p hp => by have := hid p hp; omega) (fun p hp => by have := hid p hp; unfold ltI; simp; omega)
  refine ⟨h.objs, ?_, h.ver, by show R.id + 1 = s.id + 1; rw [h.id], h.now⟩
  show All2 SimU (R.ups ++ [_]) (mput ltI s.ups (s.id + 1) _)
  rw [e2]
  exact h.ups.snoc ⟨by show R.id + 1 = s.id + 1; rw [h.id], rfl, h.now, List.Perm.refl _⟩
theorem Sim.osum (h : Sim R s) : osumR R.objs = msum (fun o : PO => o.d.length) s.objs := by
  rw [← h.objs]
  unfold osumR msum
  rw [List.map_map]; rfl
theorem SimU.sum {u : Ru} {p : Int × PU} (h : SimU u p) : psumR u.parts = p.2.sum := by
  unfold psumR PU.sum
  rw [← msum_perm h.parts]
  unfold msum
  rw [List.map_map]; rfl
theorem Sim.usum (h : Sim R s) : usumR R.ups = msum PU.sum s.ups := by
  have := h.ups
  clear h
  generalize R.ups = l at *
  generalize s.ups = m at *
  induction this with
  | nil => rfl
  | cons ha _ ih =>
    rw [msum_cons, ← ha.sum, ← ih]
    unfold usumR
    rw [List.map_cons, List.sum_cons]
theorem Sim.size (h : Sim R s) : R.size = s.tot := by
  unfold RS.size PS.tot
  rw [h.osum, h.usum]
theorem SimU.len {u : Ru} {p : Int × PU} (h : SimU u p) : u.parts.length = p.2.parts.length := by
  have := h.parts.length_eq
  rwa [List.length_map] at this
theorem Sim.olen (h : Sim R s) : R.objs.length = s.objs.length := by rw [← h.objs, List.length_map]
end
end Rf
end Go.Proofs.YtlljpjehalodfaaGreat
