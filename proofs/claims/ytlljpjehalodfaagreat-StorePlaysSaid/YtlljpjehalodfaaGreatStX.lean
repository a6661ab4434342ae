/- A call of a store (chapter 14). -/
import Derived.Test.YtlljpjehalodfaaGreatProg
import Derived.Test.YtlljpjehalodfaaGreatStW
import Derived.Test.YtlljpjehalodfaaGreatStG
import Derived.Test.YtlljpjehalodfaaGreatStH
namespace Go.Proofs.YtlljpjehalodfaaGreat
open Go.RowKit
namespace St

/-- A reply that lies in memory of its own. -/
def RepAt (base : Nat) (w' : World) (v : Value) (r : PR) : Prop :=
  ∃ A c Al cl, v = .agg #[.int .i64 r.err, .slice A r.d.length c, .int .i64 r.ver, .int .i64 r.born, .int .i64 r.id, .slice Al r.list.length cl, .bool r.more] ∧
    w'.ownsRow base 5 1 (.slice A r.d.length c) r.d.length (r.d.map byteV) ∧ w'.ownsRow base 62 4 (.slice Al r.list.length cl) r.list.length (itCells r.list)
theorem rep_plain {base : Nat} {w' : World} (e ver born id : Int) : RepAt base w' (.agg #[.int .i64 e, .slice none 0 0, .int .i64 ver, .int .i64 born, .int .i64 id, .slice none 0 0, .bool false]) ⟨e, [], ver, born, id, [], false⟩ :=
  ⟨none, 0, none, 0, rfl, World.ownsRow_nil _ _ _ _, World.ownsRow_nil _ _ _ _⟩
/-- Where a store's bytes lie. -/
def LS.addr (L : LS) (a : Addr) : Prop := (∃ p ∈ L.objs, p.2.A = some a ∧ 0 < p.2.d.length) ∨ ∃ p ∈ L.ups, ∃ q ∈ p.2.parts, q.2.A = some a ∧ 0 < q.2.d.length
/-- New bytes lie behind block B. -/
def Prov (B : Nat) (L L' : LS) : Prop := ∀ a, L'.addr a → L.addr a ∨ B ≤ a.block
theorem Prov.refl (B : Nat) (L : LS) : Prov B L L := fun _ h => .inl h
theorem Prov.mono {B B' : Nat} {L L' : LS} (h : Prov B L L') (hB : B' ≤ B) : Prov B' L L' := fun a ha => (h a ha).imp id (Nat.le_trans hB)
theorem Prov.sub {B : Nat} {L L' : LS} (ho : ∀ p ∈ L'.objs, p ∈ L.objs) (hu : ∀ p ∈ L'.ups, p ∈ L.ups) : Prov B L L' := fun a ha => by
  rcases ha with ⟨p, hp, e⟩ | ⟨p, hp, q, hq, e⟩
  · exact .inl (.inl ⟨p, ho p hp, e⟩)
  · exact .inl (.inr ⟨p, hu p hp, q, hq, e⟩)
theorem Prov.made {B : Nat} {L L0 : LS} {k : ByteArray} {A : Option Addr} {c : Nat} {d : Bs} (hA : High B A) (ho : ∀ p ∈ L.objs, p ∈ L0.objs) (hu : ∀ p ∈ L.ups, p ∈ L0.ups) : Prov B L0 (L.made k A c d) := fun a ha => by
  rcases ha with ⟨p, hp, e⟩ | ⟨p, hp, q, hq, e⟩
  · rcases mput_mem.1 hp with rfl | ⟨hp, _⟩
    · exact .inr (hA a e.1)
    · exact .inl (.inl ⟨p, ho p hp, e⟩)
  · exact .inl (.inr ⟨p, hu p hp, q, hq, e⟩)
theorem Prov.parted {B : Nat} {L : LS} {id n m : Int} {u : Up} {A : Option Addr} {c : Nat} {d : Bs} (hu : mget L.ups id = some u) (hA : High B A) : Prov B L (L.parted id u n m ⟨A, c, d⟩) := fun a ha => by
  rcases ha with ⟨p, hp, e⟩ | ⟨p, hp, q, hq, e⟩
  · exact .inl (.inl ⟨p, hp, e⟩)
  · rcases mput_mem.1 hp with rfl | ⟨hp, _⟩
    · rcases mput_mem.1 hq with rfl | ⟨hq, _⟩
      · exact .inr (hA a e.1)
      · exact .inl (.inr ⟨_, mget_mem hu, q, hq, e⟩)
    · exact .inl (.inr ⟨p, hp, q, hq, e⟩)
theorem Prov.begun {B : Nat} {L : LS} {k : ByteArray} {b : Nat} : Prov B L (L.begun k b) := fun a ha => by
  rcases ha with ⟨p, hp, e⟩ | ⟨p, hp, q, hq, e⟩
  · exact .inl (.inl ⟨p, hp, e⟩)
  · rcases mput_mem.1 hp with rfl | ⟨hp, _⟩
    · cases hq
    · exact .inl (.inr ⟨p, hp, q, hq, e⟩)
/-- The kinds that only look. -/
def Quiet (x : Cl) : Prop := x.kind = 3 ∨ x.kind = 4 ∨ x.kind = 5 ∨ x.kind = 11
def qF (L : LS) (x : Cl) (i : Nat) : Prop := L.foot i ∧ ¬ Quiet x
structure StepTo (w : World) (L : LS) (x : Cl) (w' : World) (L' : LS) : Prop where
  pure : L'.pure = (L.pure.step x.pure).1
  at_ : At w' L'
  keepQ : Keep (qF L x) w w'
  gs : L'.gs = L.gs
  foot : ∀ i, L'.foot i → L.foot i ∨ w.heap.size ≤ i
  same : Quiet x → L' = L
  prov : Prov w.heap.size L L'
theorem StepTo.keep {w w' : World} {L L' : LS} {x : Cl} (h : StepTo w L x w' L') : Keep L.foot w w' := h.keepQ.mono fun _ _ h => h.1
theorem StepTo.quiet {w w' : World} {L L' : LS} {x : Cl} (h : StepTo w L x w' L') (hq : Quiet x) : Below w.heap.size w w' := h.keepQ.below (Nat.le_refl _) fun _ hi => absurd hq hi.2
def RetDo (w : World) (L : LS) (x : Cl) (e : Ending) (w' : World) : Prop :=
  ∃ L' v, e = .returned v ∧ RepAt w.heap.size w' v (L.pure.step x.pure).2 ∧ StepTo w L x w' L'
structure ClOk (x : Cl) : Prop where
  key : x.key.size ≤ maxLen
  d : x.d.length ≤ 140737488355328
  n : (kI).ok x.n
  id : (kI).ok x.id
theorem Dat.offRep {w : World} {gs c g : Nat} {A : Option Addr} {d : Bs} (h : Dat w gs A c d) (hb : Blk w g 43 rep0) : Off g A d := fun b off e hd hbg => by
  obtain ⟨b', off', e', _, hc⟩ := h.at_ hd
  rw [e] at e'
  injection e' with e'
  injection e' with e1 e2
  have h0 := hc 0 (byteV d[0]) (by simp [List.getElem?_eq_getElem hd])
  rw [← e1, hbg, hb.cell] at h0
  obtain ⟨hlt, h0⟩ := Array.getElem?_eq_some_iff.1 h0
  have hall : ∀ (i : Nat) (hi : i < rep0.size), rep0[i] ≠ byteV d[0] := by
    intro i hi
    have : i < 7 := hi
    rcases (by omega : i = 0 ∨ i = 1 ∨ i = 2 ∨ i = 3 ∨ i = 4 ∨ i = 5 ∨ i = 6) with rfl | rfl | rfl | rfl | rfl | rfl | rfl <;> (intro h; cases h)
  exact hall _ hlt h0
theorem At.freeRep {w : World} {L : LS} {g : Nat} (h : At w L) (hb : Blk w g 43 rep0) : Free L g := ⟨fun p hp => (h.od p hp).offRep hb, fun p hp q hq => (h.ud p hp q hq).offRep hb⟩
theorem Fr.turnTo {w wX wY : World} {F : Nat → Prop} {L L' : LS} {x : Cl} {g3 g4 : Nat} (h : Fr w wX F L x g3 g4) (hA : At wY L') (hk : Keep L.foot wX wY) (hf : ∀ i, i < w.heap.size → L.foot i → F i) (hg : L'.gs = L.gs) : Fr w wY F L' x g3 g4 := by
  have h4 := h.h4
  have hgs := h.gs
  exact h.turn hA hk hf hg (hA.freeRep (hk.blk h.res (h.at_.foot_cells h.res (by omega))))
theorem Fr.turnG {w wX wY : World} {F G : Nat → Prop} {L L' : LS} {x : Cl} {g3 g4 : Nat} (h : Fr w wX F L x g3 g4) (hA : At wY L') (hk : Keep G wX wY) (hG : ∀ i, G i → L.foot i) (hf : ∀ i, i < w.heap.size → G i → F i) (hg : L'.gs = L.gs) : Fr w wY F L' x g3 g4 := by
  have h3 := h.h3
  have h4 := h.h4
  have hgs := h.gs
  have hk' : Keep L.foot wX wY := hk.mono fun i _ hi => hG i hi
  have hb := hk'.blk h.res (h.at_.foot_cells h.res (by omega))
  exact ⟨hA, hb, hk'.blk h.call (h.at_.foot_cells h.call (by omega)), h.keep.then hk hf, hA.freeRep hb, by rw [hg]; exact h.gs, h.h3, h.h4, by rw [hg]; exact h.at_.dat h.dat hk'⟩
theorem RepAt.mono {base base' : Nat} {w w' : World} {v : Value} {r : PR} {g : Nat} (h : RepAt base w v r) (hk : Keep (fun i => i = g) w w') (hg : g < base) (hb : base' ≤ base) : RepAt base' w' v r := by
  obtain ⟨A, c, Al, cl, e, h1, h2⟩ := h
  exact ⟨A, c, Al, cl, e, own_base (hk.own h1 fun i hi e => by omega) hb, own_base (hk.own h2 fun i hi e => by omega) hb⟩
theorem kind_step {s : PS} {c : PC} : s.step c = if c.kind = 1 ∨ c.kind = 2 then s.put c
  else if c.kind = 3 ∨ c.kind = 4 then (s, s.get c)
  else if c.kind = 5 then (s, s.list c)
  else if c.kind = 11 then (s, s.opened c)
  else if c.kind = 7 then s.create c
  else if c.kind = 6 then s.drop c
  else if c.kind = 8 ∨ c.kind = 9 ∨ c.kind = 10 then s.upload c
  else (s, bad 1) := rfl
/-- What a branch left: a store, and a value that is the reply. -/
structure Mid (w1 : World) (L : LS) (x : Cl) (v : Value) (w2 : World) (L' : LS) (r : PS × PR) : Prop where
  pure : L'.pure = r.1
  at_ : At w2 L'
  keep : Keep (qF L x) w1 w2
  gs : L'.gs = L.gs
  foot : ∀ i, L'.foot i → L.foot i ∨ w1.heap.size ≤ i
  rep : RepAt w1.heap.size w2 v r.2
  same : Quiet x → L' = L
  prov : Prov w1.heap.size L L'
theorem keep_loud {w1 w2 : World} {L : LS} {x : Cl} (h : Keep L.foot w1 w2) (hx : ¬ Quiet x) : Keep (qF L x) w1 w2 := h.mono fun _ _ h => ⟨h, hx⟩
theorem mid_err {w1 w2 : World} {L : LS} {x : Cl} {n : Int} {v : Value} {r : PS × PR} (hx : ¬ Quiet x) (h : RetE w1 L n (.returned v) w2) (hr : r = (L.pure, bad n)) : Mid w1 L x v w2 L r := by
  obtain ⟨e, hA, hk⟩ := h
  injection e with e
  subst e hr
  exact ⟨rfl, hA, keep_loud hk hx, rfl, fun i h => .inl h, rep_plain n 0 0 0, fun _ => rfl, Prov.refl _ _⟩
theorem put_mid {w1 : World} {L : LS} {n : Nat} {x : Cl} (h : At w1 L) (hi : Inv L n) (hn : n ≤ 1000000) (hd : Dat w1 L.gs x.A x.c x.d) (hx : ClOk x) (hkind : ¬ Quiet x) :
    Calls Tryz.prog 15 #[.pointer (some ⟨L.gs, 0, none⟩), x.val] w1 fun e w2 => ∃ v L', e = .returned v ∧ Mid w1 L x v w2 L' (L.pure.put x.pure) := by
  have he : L.pure.putE x.pure = putE L x := by
    unfold PS.putE putE
    rw [show x.pure.key = x.key from rfl, pure_some, pure_ob, pure_crowded]; rfl
  refine (put_calls w1 h hi hn hd hx.d hx.key).mono ?_
  intro e w2 hr
  rcases hr with ⟨h0, hr⟩ | ⟨h0, A', c', hHi, hr⟩
  · have hv := hr.1
    subst hv
    exact ⟨_, L, rfl, mid_err hkind hr (by unfold PS.put; rw [he, if_neg h0])⟩
  · obtain ⟨rfl, hA, hk⟩ := hr
    refine ⟨_, _, rfl, ?_, hA, keep_loud hk hkind, rfl, fun i h => .inl h, ?_, fun h => absurd h hkind, Prov.made hHi (fun _ h => h) (fun _ h => h)⟩
    · rw [pure_made]; unfold PS.put; rw [he, if_pos h0]; rfl
    · unfold PS.put; rw [he, if_pos h0]; exact rep_plain 0 (L.ver + 1) L.now 0
theorem get_mid {w1 : World} {L : LS} {n : Nat} {x : Cl} (h : At w1 L) (hi : Inv L n) (hd : Dat w1 L.gs x.A x.c x.d) (hx : ClOk x) :
    Calls Tryz.prog 16 #[.pointer (some ⟨L.gs, 0, none⟩), x.val] w1 fun e w2 => ∃ v L', e = .returned v ∧ Mid w1 L x v w2 L' (L.pure, L.pure.get x.pure) := by
  refine (get_calls w1 h hi hd hx.key).mono ?_
  intro e w2 hr
  rcases hr with ⟨h0, rfl, hA, hk⟩ | ⟨h0, A, c, rfl, hown, hA, hk⟩
  · refine ⟨_, L, rfl, rfl, hA, hk.mono (fun _ _ h => h.elim), rfl, fun i h => .inl h, ?_, fun _ => rfl, Prov.refl _ _⟩
    unfold PS.get
    rw [if_neg h0]
    exact rep_plain _ 0 0 0
  · refine ⟨_, L, rfl, rfl, hA, hk.mono (fun _ _ h => h.elim), rfl, fun i h => .inl h, ?_, fun _ => rfl, Prov.refl _ _⟩
    unfold PS.get
    rw [if_pos h0, show x.pure.key = x.key from rfl, pure_ob]
    exact ⟨A, c, none, 0, rfl, hown, World.ownsRow_nil _ _ _ _⟩
theorem page_mid {w1 w2 : World} {L : LS} {x : Cl} {l : List It} {b : Bool} {e : Ending} (h : At w1 L) (hr : RetPage w1 l b e w2) : ∃ v L', e = .returned v ∧ Mid w1 L x v w2 L' (L.pure, ⟨0, [], 0, 0, 0, l, b⟩) := by
  obtain ⟨A, c, rfl, hown, hb⟩ := hr
  exact ⟨_, L, rfl, rfl, h.below hb, Keep.of_below hb, rfl, fun i h => .inl h, ⟨none, 0, A, c, rfl, World.ownsRow_nil _ _ _ _, hown⟩, fun _ => rfl, Prov.refl _ _⟩
theorem list_mid {w1 : World} {L : LS} {n : Nat} {x : Cl} (h : At w1 L) (hi : Inv L n) (hn : n ≤ 1000000) (hd : Dat w1 L.gs x.A x.c x.d) :
    Calls Tryz.prog 17 #[.pointer (some ⟨L.gs, 0, none⟩), x.val] w1 fun e w2 => ∃ v L', e = .returned v ∧ Mid w1 L x v w2 L' (L.pure, L.pure.list x.pure) :=
  (list_calls w1 h hi hn hd).mono fun _ _ hr => page_mid h hr
theorem opened_mid {w1 : World} {L : LS} {n : Nat} {x : Cl} (h : At w1 L) (hi : Inv L n) (hn : n ≤ 1000000) (hd : Dat w1 L.gs x.A x.c x.d) :
    Calls Tryz.prog 18 #[.pointer (some ⟨L.gs, 0, none⟩), x.val] w1 fun e w2 => ∃ v L', e = .returned v ∧ Mid w1 L x v w2 L' (L.pure, L.pure.opened x.pure) :=
  (opened_calls w1 h hi hn hd).mono fun _ _ hr => page_mid h hr
theorem begun_foot {L : LS} {k : ByteArray} {b i : Nat} (h : (L.begun k b).foot i) : L.foot i ∨ i = b := by
  rcases h with h | h | h | ⟨p, hp, h⟩
  · exact .inl (.inl h)
  · exact .inl (.inr (.inl h))
  · exact .inl (.inr (.inr (.inl h)))
  · rcases mput_mem.1 hp with rfl | ⟨hp, _⟩
    · exact .inr h
    · exact .inl (.inr (.inr (.inr ⟨p, hp, h⟩)))
theorem pure_begun (L : LS) (k : ByteArray) (b : Nat) : (L.begun k b).pure = { L.pure with id := L.pure.id + 1, ups := mput ltI L.pure.ups (L.pure.id + 1) ⟨k, L.pure.now, []⟩ } := by
  show PS.mk _ _ _ _ _ _ = PS.mk _ _ _ _ _ _
  congr 1
  exact (mput_map Up.pure ltI L.ups (L.id + 1) ⟨k, L.now, b, []⟩).symm
theorem create_mid {w1 : World} {L : LS} {n : Nat} {x : Cl} (h : At w1 L) (hi : Inv L n) (hn : n ≤ 1000000) (hd : Dat w1 L.gs x.A x.c x.d) (hx : ClOk x) (hkind : ¬ Quiet x) :
    Calls Tryz.prog 19 #[.pointer (some ⟨L.gs, 0, none⟩), x.val] w1 fun e w2 => ∃ v L', e = .returned v ∧ Mid w1 L x v w2 L' (L.pure.create x.pure) := by
  refine (create_calls w1 h hi hn hd hx.key).mono ?_
  intro e w2 hr
  rcases hr with ⟨h0, hr⟩ | ⟨h0, b, hb, rfl, hA, hk⟩
  · have hv := hr.1
    subst hv
    exact ⟨_, L, rfl, mid_err hkind hr (by unfold PS.create; rw [if_neg h0])⟩
  · refine ⟨_, _, rfl, ?_, hA, keep_loud hk hkind, rfl, fun i h => ?_, ?_, fun h => absurd h hkind, Prov.begun⟩
    · rw [pure_begun]; unfold PS.create; rw [if_pos h0]; rfl
    · rcases begun_foot h with h | h
      · exact .inl h
      · exact .inr (by omega)
    · unfold PS.create; rw [if_pos h0]; exact rep_plain 0 0 L.now (L.id + 1)
theorem parted_foot {L : LS} {id n m : Int} {u : Up} {p : Pt} (hu : mget L.ups id = some u) {i : Nat} (h : (L.parted id u n m p).foot i) : L.foot i := by
  rcases h with h | h | h | ⟨q, hq, h⟩
  · exact .inl h
  · exact .inr (.inl h)
  · exact .inr (.inr (.inl h))
  · rcases mput_mem.1 hq with rfl | ⟨hq, _⟩
    · exact .inr (.inr (.inr ⟨_, mget_mem hu, h⟩))
    · exact .inr (.inr (.inr ⟨q, hq, h⟩))
theorem part_mid {w1 : World} {L : LS} {n : Nat} {x : Cl} {u : Up} (h : At w1 L) (hi : Inv L n) (hn : n ≤ 1000000) (hd : Dat w1 L.gs x.A x.c x.d) (hx : ClOk x) (hkind : ¬ Quiet x) (hu : mget L.ups x.id = some u) :
    Calls Tryz.prog 20 #[.pointer (some ⟨L.gs, 0, none⟩), u.val, x.val] w1 fun e w2 => ∃ v L', e = .returned v ∧ Mid w1 L x v w2 L' (L.pure.part u.pure x.pure) := by
  refine (part_calls w1 h hi hn hd hu hx.d hx.n).mono ?_
  intro e w2 hr
  rcases hr with ⟨h0, hr⟩ | ⟨h0, rfl, ⟨A, c, hHi, hA⟩, hk⟩
  · have hv := hr.1
    subst hv
    exact ⟨_, L, rfl, mid_err hkind hr (by unfold PS.part; rw [if_neg h0])⟩
  · refine ⟨_, _, rfl, ?_, hA, keep_loud hk hkind, rfl, fun i h => .inl (parted_foot hu h), ?_, fun h => absurd h hkind, Prov.parted hu hHi⟩
    · rw [pure_parted]; unfold PS.part; rw [if_pos h0, pure_more]; rfl
    · unfold PS.part; rw [if_pos h0]; exact rep_plain 0 0 0 0
theorem complete_mid {w1 : World} {L : LS} {n : Nat} {x : Cl} {u : Up} (h : At w1 L) (hi : Inv L n) (hn : n ≤ 1000000) (hd : Dat w1 L.gs x.A x.c x.d) (hx : ClOk x) (hkind : ¬ Quiet x) (hu : mget L.ups x.id = some u) :
    Calls Tryz.prog 21 #[.pointer (some ⟨L.gs, 0, none⟩), u.val, x.val] w1 fun e w2 => ∃ v L', e = .returned v ∧ Mid w1 L x v w2 L' (L.pure.complete u.pure x.pure) := by
  refine (complete_calls w1 h hi hn hd hu hx.id).mono ?_
  intro e w2 hr
  rcases hr with ⟨h0, hr⟩ | ⟨h0, A, c, hHi, rfl, hA, hk⟩
  · have hv := hr.1
    subst hv
    exact ⟨_, L, rfl, mid_err hkind hr (by unfold PS.complete; rw [if_neg h0])⟩
  · refine ⟨_, _, rfl, ?_, hA, keep_loud hk hkind, rfl, fun i h => .inl (closed_foot (u := u) h), ?_, fun h => absurd h hkind, Prov.made hHi (fun _ h => h) (fun _ h => mdel_sub h)⟩
    · rw [pure_made, pure_closed]; unfold PS.complete; rw [if_pos h0]; rfl
    · unfold PS.complete; rw [if_pos h0]; exact rep_plain 0 (L.ver + 1) L.now 0
end St
end Go.Proofs.YtlljpjehalodfaaGreat
