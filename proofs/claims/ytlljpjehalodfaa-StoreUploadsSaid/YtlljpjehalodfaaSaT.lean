/- An upload put together (chapter 14; plain laws). -/
import Derived.Test.YtlljpjehalodfaaProg
import Derived.Test.YtlljpjehalodfaaSaR
namespace Go.Proofs.Ytlljpjehalodfaa
open Go.RowKit
namespace St

def keyK : ByteArray := ⟨#[107]⟩
theorem rightK : rightB keyK = true := by decide +kernel
/-- The parts that were sent, from number k on. -/
def pq : Int → List Bs → List Bool → List (Int × Bs)
  | _, [], _ => []
  | _, _ :: _, [] => []
  | k, d :: D, b :: S => if b = true then (k, d) :: pq (k + 1) D S else pq (k + 1) D S
theorem pq_ge : ∀ {k : Int} {D : List Bs} {S : List Bool} {p : Int × Bs}, p ∈ pq k D S → k ≤ p.1
  | _, [], _, _, h => by cases h
  | _, _ :: _, [], _, h => by cases h
  | k, d :: D, b :: S, p, h => by
    unfold pq at h
    split at h
    · rcases List.mem_cons.1 h with rfl | h
      · exact Int.le_refl _
      · have := pq_ge h; omega
    · have := pq_ge h; omega
theorem pq_del {k x : Int} {D : List Bs} {S : List Bool} (h : x < k) : mdel (pq k D S) x = pq k D S := by
  unfold mdel
  exact List.filter_eq_self.2 fun p hp => by have := pq_ge hp; simp; omega
theorem mins_front {x : Int} {v : Bs} : ∀ {l : List (Int × Bs)}, (∀ p ∈ l, x < p.1) → mins ltI (x, v) l = (x, v) :: l
  | [], _ => rfl
  | q :: r, h => by
    unfold mins
    rw [if_pos (by unfold ltI; exact decide_eq_true (h q List.mem_cons_self))]
theorem pq_put : ∀ {k : Int} {D : List Bs} {S : List Bool} {i : Nat} (hi : i < D.length), S.length = D.length → mput ltI (pq k D S) (k + (i : Int)) D[i] = pq k D (S.set i true)
  | _, [], _, _, hi, _ => by cases hi
  | _, _ :: _, [], _, _, hS => by cases hS
  | k, d :: D, b :: S, 0, _, hS => by
    have hr : ∀ p ∈ pq (k + 1) D S, k < p.1 := fun p hp => by have := pq_ge hp; omega
    have h0 : k + ((0 : Nat) : Int) = k := by omega
    rw [h0]
    show mins ltI (k, d) (mdel (pq k (d :: D) (b :: S)) k) = pq k (d :: D) (true :: S)
    have e : mdel (pq k (d :: D) (b :: S)) k = pq (k + 1) D S := by
      have hd := pq_del (k := k + 1) (x := k) (D := D) (S := S) (by omega)
      cases b with
      | false => exact hd
      | true =>
        show mdel ((k, d) :: pq (k + 1) D S) k = pq (k + 1) D S
        unfold mdel at hd ⊢
        rw [List.filter_cons_of_neg (by simp)]
        exact hd
    rw [e, mins_front hr]
    rfl
  | k, d :: D, b :: S, i + 1, hi, hS => by
    have hi' : i < D.length := by simpa using hi
    have ih := pq_put (k := k + 1) (D := D) (S := S) hi' (by simpa using hS)
    have hx : k + ((i + 1 : Nat) : Int) = k + 1 + (i : Int) := by omega
    rw [hx]
    show mput ltI (pq k (d :: D) (b :: S)) (k + 1 + (i : Int)) D[i] = pq k (d :: D) (b :: S.set i true)
    cases b with
    | false => exact ih
    | true =>
      show mins ltI (k + 1 + (i : Int), D[i]) (mdel ((k, d) :: pq (k + 1) D S) (k + 1 + (i : Int))) = (k, d) :: pq (k + 1) D (S.set i true)
      have e : mdel ((k, d) :: pq (k + 1) D S) (k + 1 + (i : Int)) = (k, d) :: mdel (pq (k + 1) D S) (k + 1 + (i : Int)) := by
        unfold mdel
        rw [List.filter_cons_of_pos (by simp; omega)]
      rw [e]
      unfold mins
      rw [if_neg (by unfold ltI; simp; omega), ← ih]
      rfl
theorem pq_none : ∀ (k : Int) (D : List Bs), pq k D (List.replicate D.length false) = []
  | _, [] => rfl
  | k, _ :: D => pq_none (k + 1) D
theorem pq_all_len : ∀ (k : Int) (D : List Bs), (pq k D (List.replicate D.length true)).length = D.length
  | _, [] => rfl
  | k, _ :: D => by
    show (pq (k + 1) D (List.replicate D.length true)).length + 1 = _
    rw [pq_all_len (k + 1) D]; rfl
theorem pq_all_get : ∀ (k : Int) (D : List Bs) {i : Nat} (hi : i < D.length), mget (pq k D (List.replicate D.length true)) (k + (i : Int)) = some D[i]
  | _, [], _, hi => by cases hi
  | k, d :: D, 0, _ => by
    show mget ((k, d) :: pq (k + 1) D (List.replicate D.length true)) (k + ((0 : Nat) : Int)) = some d
    rw [mget_cons, if_pos (by show k = k + ((0 : Nat) : Int); omega)]
  | k, d :: D, i + 1, hi => by
    have hi' : i < D.length := by simpa using hi
    show mget ((k, d) :: pq (k + 1) D (List.replicate D.length true)) (k + ((i + 1 : Nat) : Int)) = some D[i]
    rw [mget_cons, if_neg (by show ¬ k = k + ((i + 1 : Nat) : Int); omega), show k + ((i + 1 : Nat) : Int) = k + 1 + (i : Int) by omega]
    exact pq_all_get (k + 1) D hi'
def tot500 (D : List Bs) : Prop := ∀ d ∈ D, d.length ≤ 500
theorem pq_sum : ∀ (k : Int) (D : List Bs) (S : List Bool), tot500 D → msum (fun d : Bs => d.length) (pq k D S) ≤ D.length * 500
  | _, [], _, _ => Nat.zero_le _
  | _, _ :: _, [], _ => Nat.zero_le _
  | k, d :: D, b :: S, h => by
    have h1 := h d List.mem_cons_self
    have h2 := pq_sum (k + 1) D S fun x hx => h x (List.mem_cons_of_mem _ hx)
    rw [List.length_cons, Nat.add_mul]
    cases b with
    | false => exact Nat.le_trans h2 (Nat.le_add_right _ _)
    | true =>
      have e : msum (fun d : Bs => d.length) (pq k (d :: D) (true :: S)) = d.length + msum (fun d : Bs => d.length) (pq (k + 1) D S) := msum_cons _ _ _
      rw [e, Nat.one_mul, Nat.add_comm]
      exact Nat.add_le_add h2 h1
theorem flat_snoc (D : List Bs) {m : Nat} (h : m < D.length) : (D.take (m + 1)).flatten = (D.take m).flatten ++ D[m] := by
  rw [List.take_succ_eq_append_getElem h, List.flatten_append]; simp
theorem pq_join (D : List Bs) : ∀ {m : Nat}, m ≤ D.length → joinP (pq 1 D (List.replicate D.length true)) m = some (D.take m).flatten
  | 0, _ => rfl
  | m + 1, h => by
    unfold joinP
    rw [pq_join D (m := m) (by omega), show ((m : Nat) : Int) + 1 = 1 + (m : Int) by omega, pq_all_get 1 D (by omega)]
    show some _ = _
    rw [flat_snoc D (by omega)]
theorem flat_500 : ∀ {D : List Bs}, tot500 D → D.flatten.length ≤ D.length * 500
  | [], _ => Nat.zero_le _
  | d :: D, h => by
    have h1 := h d List.mem_cons_self
    have h2 := flat_500 (D := D) fun x hx => h x (List.mem_cons_of_mem _ hx)
    rw [List.flatten_cons, List.length_append, List.length_cons, Nat.add_mul]
    omega
/-- A store with one upload, number 1. -/
structure Opn (s : PS) (D : List Bs) (S : List Bool) : Prop where
  o : s.objs = []
  u : s.ups = [(1, ⟨keyK, 0, pq 1 D S⟩)]
  v : s.ver = 0
  t : s.now = 0
theorem Opn.all {s : PS} {D : List Bs} {S : List Bool} {n : Nat} (h : Opn s D S) (hi : PInv s n) : s.all = (msum (fun d : Bs => d.length) (pq 1 D S) : Int) := by
  have := hi.all
  unfold PS.tot at this
  rw [h.o, h.u, msum_nil, msum_cons, msum_nil] at this
  rw [this]
  show ((0 + (msum (fun d : Bs => d.length) (pq 1 D S) + 0) : Nat) : Int) = _
  omega
def cCreate : Cl := ⟨7, keyK, none, 0, [], 0, 0, 0, 0⟩
def cPart (A : Option Addr) (c : Nat) (d : Bs) (n : Int) : Cl := ⟨8, ⟨#[]⟩, A, c, d, 0, 0, n, 1⟩
def cComplete (n : Int) : Cl := ⟨9, ⟨#[]⟩, none, 0, [], 0, 0, n, 1⟩
def cAbort : Cl := ⟨10, ⟨#[]⟩, none, 0, [], 0, 0, 0, 1⟩
theorem up_step {s : PS} {x : PC} (h : x.kind = 8 ∨ x.kind = 9 ∨ x.kind = 10) : s.step x = s.upload x := by
  rw [kind_step, if_neg (by omega), if_neg (by omega), if_neg (by omega), if_neg (by omega), if_neg (by omega), if_neg (by omega), if_pos h]
theorem step_create (g : Nat) (D : List Bs) : ((emptyLS g).pure.step cCreate.pure).2 = ⟨0, [], 0, 0, 1, [], false⟩ ∧ Opn ((emptyLS g).pure.step cCreate.pure).1 D (List.replicate D.length false) := by
  have e : (emptyLS g).pure.step cCreate.pure = (emptyLS g).pure.create cCreate.pure := by
    rw [kind_step]
    have hk : cCreate.pure.kind = 7 := rfl
    rw [if_neg (by omega), if_neg (by omega), if_neg (by omega), if_neg (by omega), if_pos hk]
  have e2 : (emptyLS g).pure.createE cCreate.pure = 0 := by
    unfold PS.createE
    rw [if_neg (by show ¬ rightB keyK = false; rw [rightK]; decide)]
    rfl
  rw [e]
  unfold PS.create
  rw [if_pos e2]
  refine ⟨rfl, rfl, ?_, rfl, rfl⟩
  rw [pq_none]
  rfl
theorem step_part {s : PS} {D : List Bs} {S : List Bool} {n : Nat} (h : Opn s D S) (hi : PInv s n) (hS : S.length = D.length) (h8 : D.length ≤ 8) (h5 : tot500 D) {i : Nat} (hd : i < D.length) (A : Option Addr) (c : Nat) :
    ((s.step (cPart A c D[i] ((i : Int) + 1)).pure).2).err = 0 ∧ Opn (s.step (cPart A c D[i] ((i : Int) + 1)).pure).1 D (S.set i true) := by
  have hall := h.all hi
  have hsum := pq_sum 1 D S h5
  have hlen := h5 _ (List.getElem_mem hd)
  rw [up_step (.inl rfl)]
  have hm : mget s.ups (1 : Int) = some ⟨keyK, 0, pq 1 D S⟩ := by rw [h.u, mget_cons, if_pos rfl]
  have e : s.upload (cPart A c D[i] ((i : Int) + 1)).pure = s.part ⟨keyK, 0, pq 1 D S⟩ (cPart A c D[i] ((i : Int) + 1)).pure := by
    unfold PS.upload
    rw [show (cPart A c D[i] ((i : Int) + 1)).pure.id = 1 from rfl, hm]
    exact if_pos rfl
  rw [e]
  have e2 : s.partE ⟨keyK, 0, pq 1 D S⟩ (cPart A c D[i] ((i : Int) + 1)).pure = 0 := by
    unfold PS.partE
    rw [if_neg (by show ¬ ((i : Int) + 1 < 1 ∨ 32 < (i : Int) + 1); omega), if_neg (by show ¬ 262144 < D[i].length; omega), if_neg]
    unfold PS.more
    show ¬ 4194304 < s.all + ((D[i].length : Int) - _)
    omega
  unfold PS.part
  rw [if_pos e2]
  refine ⟨rfl, h.o, ?_, h.v, h.t⟩
  show mput ltI s.ups 1 ⟨keyK, 0, mput ltI (pq 1 D S) ((i : Int) + 1) D[i]⟩ = _
  rw [show (i : Int) + 1 = 1 + (i : Int) by omega, pq_put hd hS, h.u]
  rfl
/-- Nothing is left. -/
structure Gone (s : PS) : Prop where
  o : s.objs = []
  u : s.ups = []
  all : s.all = 0
/-- One object is left. -/
structure Done (s : PS) (F : Bs) : Prop where
  o : s.objs = [(keyK, ⟨F, 1, 0⟩)]
  u : s.ups = []
  all : s.all = (F.length : Int)
theorem step_abort {s : PS} {D : List Bs} {S : List Bool} {n : Nat} (h : Opn s D S) (hi : PInv s n) : ((s.step cAbort.pure).2).err = 0 ∧ Gone (s.step cAbort.pure).1 := by
  have hall := h.all hi
  rw [up_step (.inr (.inr rfl))]
  have hm : mget s.ups (1 : Int) = some ⟨keyK, 0, pq 1 D S⟩ := by rw [h.u, mget_cons, if_pos rfl]
  have e : s.upload cAbort.pure = (s.closed 1 ⟨keyK, 0, pq 1 D S⟩, bad 0) := by
    unfold PS.upload
    rw [show cAbort.pure.id = 1 from rfl, hm]
    exact (if_neg (by show ¬ (10 : Int) = 8; decide)).trans (if_neg (by show ¬ (10 : Int) = 9; decide))
  rw [e]
  refine ⟨rfl, h.o, ?_, ?_⟩
  · show mdel s.ups 1 = []
    rw [h.u]; rfl
  · show s.all - ((PU.sum ⟨keyK, 0, pq 1 D S⟩ : Nat) : Int) = 0
    rw [hall]
    show (msum (fun d : Bs => d.length) (pq 1 D S) : Int) - (msum (fun d : Bs => d.length) (pq 1 D S) : Int) = 0
    omega
theorem step_complete {s : PS} {D : List Bs} {n : Nat} (h : Opn s D (List.replicate D.length true)) (hi : PInv s n) (hn : 1 ≤ D.length) (h8 : D.length ≤ 8) (h5 : tot500 D) :
    ((s.step (cComplete (D.length : Int)).pure).2).err = 0 ∧ Done (s.step (cComplete (D.length : Int)).pure).1 D.flatten := by
  have hall := h.all hi
  have hfl := flat_500 h5
  rw [up_step (.inr (.inl rfl))]
  have hm : mget s.ups (1 : Int) = some ⟨keyK, 0, pq 1 D (List.replicate D.length true)⟩ := by rw [h.u, mget_cons, if_pos rfl]
  have e : s.upload (cComplete (D.length : Int)).pure = s.complete ⟨keyK, 0, pq 1 D (List.replicate D.length true)⟩ (cComplete (D.length : Int)).pure := by
    unfold PS.upload
    rw [show (cComplete (D.length : Int)).pure.id = 1 from rfl, hm]
    exact (if_neg (by show ¬ (9 : Int) = 8; decide)).trans (if_pos rfl)
  have hj : joinP (pq 1 D (List.replicate D.length true)) ((D.length : Int)).toNat = some D.flatten := by
    rw [show ((D.length : Int)).toNat = D.length by omega, pq_join D (Nat.le_refl _), List.take_length]
  have e2 : s.completeE ⟨keyK, 0, pq 1 D (List.replicate D.length true)⟩ (cComplete (D.length : Int)).pure = 0 := by
    unfold PS.completeE
    rw [if_neg (by
      show ¬ ((D.length : Int) < 1 ∨ (D.length : Int) ≠ ((pq 1 D (List.replicate D.length true)).length : Int))
      rw [pq_all_len]; omega)]
    rw [if_neg (by
      show ¬ (joinP (pq 1 D (List.replicate D.length true)) ((D.length : Int)).toNat).isSome = false
      rw [hj]; simp)]
    rw [if_neg (by
      show ¬ 262144 < ((joinP (pq 1 D (List.replicate D.length true)) ((D.length : Int)).toNat).getD []).length
      rw [hj]; show ¬ 262144 < D.flatten.length; omega)]
    refine if_neg ?_
    unfold PS.crowded
    rw [h.o]
    show ¬ (true && false) = true
    decide
  rw [e]
  unfold PS.complete
  rw [if_pos e2]
  refine ⟨rfl, ?_, ?_, ?_⟩
  · show mput ltS s.objs keyK ⟨(joinP (pq 1 D (List.replicate D.length true)) ((D.length : Int)).toNat).getD [], s.ver + 1, s.now⟩ = _
    rw [hj, h.o, h.v, h.t]; rfl
  · show mdel s.ups 1 = []
    rw [h.u]; rfl
  · show (s.all - ((PU.sum ⟨keyK, 0, pq 1 D (List.replicate D.length true)⟩ : Nat) : Int)) + ((((joinP (pq 1 D (List.replicate D.length true)) ((D.length : Int)).toNat).getD []).length : Int) - (((mget s.objs keyK).getD po0).d.length : Int)) = _
    rw [hall, hj, h.o]
    show (msum (fun d : Bs => d.length) (pq 1 D (List.replicate D.length true)) : Int) - (msum (fun d : Bs => d.length) (pq 1 D (List.replicate D.length true)) : Int) + ((D.flatten.length : Int) - ((0 : Nat) : Int)) = _
    omega
theorem step_late {s : PS} (h : s.ups = []) (n : Int) : (s.step (cComplete n).pure) = (s, bad 7) := by
  rw [up_step (.inr (.inl rfl))]
  unfold PS.upload
  rw [h]; rfl
theorem step_getNone {s : PS} {k : ByteArray} (h : mget s.objs k = none) : s.step (clGet k).pure = (s, bad 7) := by
  have h' : mget s.objs (clGet k).pure.key = none := h
  have e : s.getE (clGet k).pure = 7 := by
    unfold PS.getE
    exact if_pos (by rw [h']; rfl)
  rw [kind_step]
  refine (if_neg (by show ¬ ((3 : Int) = 1 ∨ (3 : Int) = 2); omega)).trans ((if_pos (.inl rfl)).trans ?_)
  unfold PS.get
  rw [if_neg (by rw [e]; decide), e]
end St
end Go.Proofs.Ytlljpjehalodfaa
