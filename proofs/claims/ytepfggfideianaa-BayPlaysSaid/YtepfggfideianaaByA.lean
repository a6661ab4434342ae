/- What lies in cells stays while boxes and maps turn; a bay in memory; the batches of an argument opened (chapter 15). -/
import Derived.Test.YtepfggfideianaaProg
import Derived.Test.YtepfggfideianaaByP
import Derived.Test.YtepfggfideianaaBayC
import Derived.Test.YtepfggfideianaaPartC
namespace Go.Proofs.Ytepfggfideianaa
open Go.RowKit Go.Conc
open Go.ChangeShapes Go.WideShapes
namespace By

/-- What lies in cells stays. -/
def CK (w w' : World) : Prop := w.heap.size ≤ w'.heap.size ∧ ∀ (i : Nat) (cs : Array Value) (t : TypeId) (f : Nat × Nat), w.heap[i]? = some (Obj.cells cs t f) → w'.heap[i]? = some (Obj.cells cs t f)
section
variable {w w' w'' : World}
theorem lt_of_some {i : Nat} {o : Obj} (h : w.heap[i]? = some o) : i < w.heap.size := (Array.getElem?_eq_some_iff.1 h).1
theorem CK.refl (w : World) : CK w w := ⟨Nat.le_refl _, fun _ _ _ _ h => h⟩
theorem CK.trans (h : CK w w') (k : CK w' w'') : CK w w'' := ⟨Nat.le_trans h.1 k.1, fun i cs t f hi => k.2 i cs t f (h.2 i cs t f hi)⟩
theorem CK.of_below (h : Below w.heap.size w w') : CK w w' := ⟨h.size, fun i cs t f hi => (h.block i (lt_of_some hi)).trans hi⟩
theorem CK.alloc (w : World) (o : Obj) : CK w (w.alloc o) := CK.of_below ((Below.refl _ _).alloc (Nat.le_refl _) _)
theorem CK.setCell (h : CK w w') {p : Addr} (hp : w.heap.size ≤ p.block) (u : Value) : CK w (w'.setCell p u) :=
  ⟨by simpa using h.1, fun i cs t f hi => (Below.heap_setCell w' p u i (fun e => by have := lt_of_some hi; omega)).trans (h.2 i cs t f hi)⟩
theorem CK.drewN (w : World) (n : Nat) : CK w (w.drewN n) := ⟨Nat.le_refl _, fun _ _ _ _ h => h⟩
theorem CK.only {g : Nat} (ho : Only g w w') (hg : ∀ (cs : Array Value) (t : TypeId) (f : Nat × Nat), w.heap[g]? ≠ some (Obj.cells cs t f)) : CK w w' :=
  ⟨ho.size, fun i cs t f hi => (ho.block i (lt_of_some hi) (fun e => by injection e with e; rw [e] at hi; exact hg _ _ _ hi)).trans hi⟩
theorem CK.chan {g cap : Nat} {l : List Int} (ho : Only g w w') (hc : Ch w g cap l) : CK w w' := CK.only ho fun cs t f e => by
  obtain ⟨s, r, h⟩ := hc
  rw [h] at e; cases e
theorem CK.map {P : Program} {k : TypeId} {κ β : Type} {K : KeyT P k κ} {ev : β → Value} {b : Nat} {l : List (κ × β)} (hg : w.grownBy w' (some b)) (h : MapAt K ev w b l) : CK w w' := CK.only hg fun cs t f e => by
  obtain ⟨es, clock, hb, _⟩ := h.own
  rw [hb] at e; cases e
theorem CK.range {P : Program} {k : TypeId} {κ β : Type} {K : KeyT P k κ} {ev : β → Value} {b r : Nat} {l todo : List (κ × β)} (hg : w.grownBy w' (some r)) (h : RangeAt K ev w b r l todo) : CK w w' := CK.only hg fun cs t f e => by
  obtain ⟨left, ⟨es, clock, since, seen, c0, hm, F, hs, hD, hr, rest⟩, ht, hok⟩ := h
  rw [hr] at e; cases e
theorem CK.cell (h : CK w w') {p : Addr} {u : Value} (hu : w.cell? p = some u) : w'.cell? p = some u := by
  unfold World.cell? at hu ⊢
  cases hb : w.heap[p.block]? with
  | none => rw [hb] at hu; simp at hu
  | some o =>
    cases o with
    | cells cs t f => rw [h.2 _ _ _ _ hb]; rw [hb] at hu; exact hu
    | _ => rw [hb] at hu; simp at hu
theorem CK.blk (h : CK w w') {g : Nat} {t : TypeId} {cs : Array Value} (hb : Blk w g t cs) : Blk w' g t cs := h.2 _ _ _ _ hb
theorem CK.reads (h : CK w w') {B size n : Nat} {A : Option Addr} {xs : List Value} (hr : Reads w B size A n xs) : Reads w' B size A n xs :=
  ⟨hr.1, fun hn => by
    obtain ⟨b, off, e, hb, hc⟩ := hr.2 hn
    exact ⟨b, off, e, hb, fun j u hu => h.cell (hc j u hu)⟩⟩
theorem CK.own (h : CK w w') {base : Nat} {e : TypeId} {size n : Nat} {v : Value} {xs : List Value} (ho : w.ownsRow base e size v n xs) : w'.ownsRow base e size v n xs := by
  refine ⟨ho.1, ?_⟩
  rcases ho.2 with h0 | ⟨g, cap, cur, hv, hb, hg, rest⟩
  · exact .inl h0
  · exact .inr ⟨g, cap, cur, hv, hb, h.2 _ _ _ _ hg, rest⟩
end

/-! ### a bay -/
def evB (g : Nat) : Value := .agg #[.chan (some g)]
noncomputable abbrev kS : KeyT Try.prog 9 ByteArray := strT Try.underlying9
structure BayAt (w : World) (B gb bm room : Nat) (m : List (ByteArray × Nat)) (L : List KX) : Prop where
  blk : Blk w gb 67 #[.int .i64 (room : Int), .map (some bm)]
  map : MapAt kS evB w bm m
  ch : ∀ p ∈ m, Ch w p.2 room (que L p.1)
  held : Held L m
  one : ∀ p ∈ m, ∀ q ∈ m, p.2 = q.2 → p.1 = q.1
  room : ∀ k, cnt L k ≤ room
  bg : B ≤ gb
  bb : B ≤ bm
  bc : ∀ p ∈ m, B ≤ p.2
  ne : ∀ p ∈ m, 0 < cnt L p.1
theorem blk_ne_map {P : Program} {k : TypeId} {κ β : Type} {K : KeyT P k κ} {ev : β → Value} {w : World} {b g : Nat} {l : List (κ × β)} {t : TypeId} {cs : Array Value} (hb : Blk w g t cs) (h : MapAt K ev w b l) : g ≠ b := fun e => by
  obtain ⟨es, clock, hm, _⟩ := h.own
  unfold Blk at hb
  rw [e, hm] at hb; cases hb
theorem ch_ne_map {P : Program} {k : TypeId} {κ β : Type} {K : KeyT P k κ} {ev : β → Value} {w : World} {b g cap : Nat} {l : List (κ × β)} {q : List Int} (hc : Ch w g cap q) (h : MapAt K ev w b l) : g ≠ b := fun e => by
  obtain ⟨es, clock, hm, _⟩ := h.own
  obtain ⟨s, r, hc⟩ := hc
  rw [e, hm] at hc; cases hc
section
variable {w w' : World} {B gb bm room : Nat} {m : List (ByteArray × Nat)} {L : List KX}
theorem Held.mget (h : Held L m) (hn : Nd m) {x : KX} (hx : x ∈ L) : ∃ g, mget m x.1 = some g := by
  obtain ⟨p, hp, e⟩ := h x hx
  exact ⟨p.2, mget_of_mem hn (by rw [← e]; exact hp)⟩
theorem BayAt.nd (h : BayAt w B gb bm room m L) : Nd m := h.map.nodup
theorem BayAt.ne_map (h : BayAt w B gb bm room m L) {p : ByteArray × Nat} (hp : p ∈ m) : p.2 ≠ bm := fun e => by
  obtain ⟨s, r, hc⟩ := h.ch p hp
  obtain ⟨es, clock, hb, _⟩ := h.map.own
  rw [e, hb] at hc; cases hc
theorem BayAt.ne_blk (h : BayAt w B gb bm room m L) {p : ByteArray × Nat} (hp : p ∈ m) : p.2 ≠ gb := fun e => blk_ne_ch h.blk (h.ch p hp) e.symm
theorem BayAt.gb_ne (h : BayAt w B gb bm room m L) : gb ≠ bm := fun e => by
  obtain ⟨es, clock, hb, _⟩ := h.map.own
  have := h.blk
  unfold Blk at this
  rw [e, hb] at this; cases this
theorem BayAt.lt_gb (h : BayAt w B gb bm room m L) : gb < w.heap.size := h.blk.lt
theorem BayAt.below (h : BayAt w B gb bm room m L) (hb : Below w.heap.size w w') : BayAt w' B gb bm room m L :=
  ⟨h.blk.below hb h.blk.lt, h.map.below hb h.map.lt_, fun p hp => (h.ch p hp).below hb (h.ch p hp).lt, h.held, h.one, h.room, h.bg, h.bb, h.bc, h.ne⟩
theorem BayAt.drewN (h : BayAt w B gb bm room m L) (n : Nat) : BayAt (w.drewN n) B gb bm room m L := h.below (below_drewN_ (Below.refl _ _) n)
/-- Another block of cells turns. -/
theorem BayAt.cells (h : BayAt w B gb bm room m L) {g : Nat} (ho : Only g w w') {t : TypeId} {cs : Array Value} (hc : Blk w g t cs) (hg : gb ≠ g) : BayAt w' B gb bm room m L :=
  ⟨ho.blk h.blk hg, h.map.kept ho (fun e => by
    injection e with e
    obtain ⟨es, clock, hb, _⟩ := h.map.own
    unfold Blk at hc
    rw [← e, hb] at hc; cases hc), fun p hp => (h.ch p hp).only ho (fun e => blk_ne_ch hc (h.ch p hp) e.symm), h.held, h.one, h.room, h.bg, h.bb, h.bc, h.ne⟩
/-- A thing more in the box of its key. -/
theorem BayAt.put (h : BayAt w B gb bm room m L) {x : KX} {g : Nat} (hg : mget m x.1 = some g) (ho : Only g w w') (hc : Ch w' g room (que L x.1 ++ [x.2])) (hr : ∀ k, cnt (L ++ [x]) k ≤ room) : BayAt w' B gb bm room m (L ++ [x]) where
  blk := ho.blk h.blk (fun e => h.ne_blk (mget_mem hg) e.symm)
  map := h.map.kept ho (fun e => by injection e with e; exact h.ne_map (mget_mem hg) e.symm)
  ch p hp := by
    rw [que_app, que_one]
    by_cases e : x.1 = p.1
    · have : p.2 = g := by
        have := mget_of_mem h.nd (show (x.1, p.2) ∈ m by rw [e]; exact hp)
        rw [hg] at this
        exact (Option.some.inj this).symm
      rw [if_pos e, this, ← e]; exact hc
    · rw [if_neg e, List.append_nil]
      exact (h.ch p hp).only ho fun e' => e (h.one _ (mget_mem hg) p hp e'.symm)
  held y hy := by
    rcases List.mem_append.1 hy with hy | hy
    · exact h.held y hy
    · rw [List.mem_singleton] at hy
      exact ⟨_, mget_mem hg, by rw [hy]⟩
  one := h.one
  room := hr
  bg := h.bg
  bb := h.bb
  bc := h.bc
  ne p hp := by rw [cnt_app]; have := h.ne p hp; omega
theorem few_boxes : ∀ {m : List (ByteArray × Nat)}, (∀ p ∈ m, 0 < cnt L p.1) → m.length ≤ sumN (m.map fun p => cnt L p.1)
  | [], _ => Nat.le_refl _
  | a :: r, h => by
    have h1 := h a List.mem_cons_self
    have h2 := few_boxes (m := r) fun p hp => h p (List.mem_cons_of_mem _ hp)
    rw [List.map_cons, sumN_cons, List.length_cons]
    omega
theorem BayAt.few (h : BayAt w B gb bm room m L) : m.length ≤ L.length := by
  rw [← sum_len h.nd h.held]; exact few_boxes h.ne
/-- A box more, with one thing. -/
theorem BayAt.add {w1 : World} (h : BayAt w B gb bm room m L) {x : KX} {g : Nat} (hk : mget m x.1 = none) (hgr : w.grownBy w1 (some bm)) (hm : MapAt kS evB w1 bm (mput kS.lt m x.1 g)) (hc0 : Ch w1 g room []) (hg : ∀ p ∈ m, p.2 ≠ g) (hB : B ≤ g)
    (ho : Only g w1 w') (hc : Ch w' g room [x.2]) (hr : ∀ k, cnt (L ++ [x]) k ≤ room) : BayAt w' B gb bm room (mput kS.lt m x.1 g) (L ++ [x]) := by
  have eL : ∀ y ∈ L, y.1 ≠ x.1 := fun y hy e => by
    obtain ⟨q, hq, e'⟩ := h.held y hy
    exact mget_none.1 hk q hq (e'.trans e)
  have hgm : g ≠ bm := fun e => by
    obtain ⟨s, r, hc⟩ := hc0
    obtain ⟨es, clock, hb, _⟩ := hm.own
    rw [e, hb] at hc; cases hc
  have hb1 : Blk w1 gb 67 #[.int .i64 (room : Int), .map (some bm)] := h.blk.grown hgr (fun e => by injection e with e; exact h.gb_ne e)
  have hgg : gb ≠ g := blk_ne_ch hb1 hc0
  refine ⟨ho.blk hb1 hgg, hm.kept ho (fun e => by injection e with e; exact hgm e.symm), fun p hp => ?_, fun y hy => ?_, fun p hp q hq e => ?_, hr, h.bg, h.bb, fun p hp => ?_, fun p hp => ?_⟩
  · rw [que_app, que_one]
    rcases mput_mem.1 hp with rfl | ⟨hp, hpx⟩
    · rw [if_pos rfl, que_nil eL]; exact hc
    · rw [if_neg (fun e => hpx e.symm), List.append_nil]
      exact ((h.ch p hp).only hgr (h.ne_map hp)).only ho (hg p hp)
  · rcases List.mem_append.1 hy with hy | hy
    · obtain ⟨p, hp, e⟩ := h.held y hy
      exact ⟨p, mput_mem.2 (.inr ⟨hp, fun e' => mget_none.1 hk p hp e'⟩), e⟩
    · rw [List.mem_singleton] at hy
      exact ⟨(x.1, g), mput_mem.2 (.inl rfl), by rw [hy]⟩
  · rcases mput_mem.1 hp with rfl | ⟨hp, _⟩
    · rcases mput_mem.1 hq with rfl | ⟨hq, _⟩
      · rfl
      · exact absurd e.symm (hg q hq)
    · rcases mput_mem.1 hq with rfl | ⟨hq, _⟩
      · exact absurd e (hg p hp)
      · exact h.one p hp q hq e
  · rcases mput_mem.1 hp with rfl | ⟨hp, _⟩
    · exact hB
    · exact h.bc p hp
  · rw [cnt_app]
    rcases mput_mem.1 hp with rfl | ⟨hp, _⟩
    · rw [cnt_one, if_pos rfl]; omega
    · have := h.ne p hp; omega
end

/-! ### keyed things in memory; the batches of an argument -/
def kxc (l : List KX) : List Value := l.flatMap fun x => [.string x.1, .int .i64 x.2]
def okX (x : KX) : Prop := x.1.size ≤ 140737488351232 ∧ (Lit.int .i64 x.2).wf = true
structure KXs (w : World) (B : Nat) (A : Option Addr) (l : List KX) : Prop where
  reads : Reads w B 2 A l.length (kxc l)
  ok : ∀ x ∈ l, okX x
section
variable {w w' : World} {B B' : Nat} {A : Option Addr} {l : List KX}
theorem KXs.below (h : KXs w B A l) (hb : Below B w w') : KXs w' B A l := ⟨h.reads.below hb, h.ok⟩
theorem KXs.more (h : KXs w B A l) (hb : B ≤ B') : KXs w B' A l := ⟨h.reads.more hb, h.ok⟩
theorem KXs.ck (h : KXs w B A l) (hb : CK w w') : KXs w' B A l := ⟨hb.reads h.reads, h.ok⟩
theorem kxc_one (l : List KX) : ∀ u ∈ kxc l, u.oneCell' = true := by
  intro u hu
  obtain ⟨x, _, hx⟩ := List.mem_flatMap.1 hu
  simp only [List.mem_cons, List.not_mem_nil, or_false] at hx
  rcases hx with rfl | rfl <;> rfl
theorem kxc_app (l m : List KX) : kxc (l ++ m) = kxc l ++ kxc m := by simp [kxc]
theorem kxc_len (l : List KX) : (kxc l).length = l.length * 2 := flatMap_len (cells := fun x : KX => [.string x.1, .int .i64 x.2]) (fun _ => rfl) l
def gk (l : List KX) (i : Nat) : KX := l.getD i (ByteArray.empty, 0)
theorem gk_eq {l : List KX} {i : Nat} (h : i < l.length) : l[i] = gk l i := by simp [gk, List.getD, List.getElem?_eq_getElem h]
theorem gk_mem {l : List KX} {i : Nat} (h : i < l.length) : gk l i ∈ l := by rw [← gk_eq h]; exact List.getElem_mem _
theorem kxc_get {l : List KX} {i : Nat} (h : i < l.length) : (kxc l)[i * 2]? = some (.string (gk l i).1) ∧ (kxc l)[i * 2 + 1]? = some (.int .i64 (gk l i).2) := by
  have h0 := flatMap_get (cells := fun x : KX => [Value.string x.1, .int .i64 x.2]) (size := 2) (fun _ => rfl) l i h 0 (by decide)
  have h1 := flatMap_get (cells := fun x : KX => [Value.string x.1, .int .i64 x.2]) (size := 2) (fun _ => rfl) l i h 1 (by decide)
  rw [gk_eq h] at h0 h1
  exact ⟨h0, h1⟩
theorem KXs.cells (h : KXs w B A l) (hp : 0 < l.length) : ∃ b off, A = some ⟨b, off, none⟩ ∧ b < B ∧ ∀ i, i < l.length → w.cell? ⟨b, off + i * 2, none⟩ = some (.string (gk l i).1) ∧ w.cell? ⟨b, off + i * 2 + 1, none⟩ = some (.int .i64 (gk l i).2) := by
  obtain ⟨b, off, e, hb, hc⟩ := h.reads.2 hp
  refine ⟨b, off, e, hb, fun i hi => ?_⟩
  obtain ⟨h0, h1⟩ := kxc_get hi
  exact ⟨hc _ _ h0, by rw [Nat.add_assoc]; exact hc _ _ h1⟩
theorem KXs.cell_ (h : KXs w B A l) {b off : Nat} (e : A = some ⟨b, off, none⟩) {i : Nat} (hi : i < l.length) : w.cell? ⟨b, off + i * 2, none⟩ = some (.string (gk l i).1) ∧ w.cell? ⟨b, off + i * 2 + 1, none⟩ = some (.int .i64 (gk l i).2) := by
  obtain ⟨b', off', e', -, hc⟩ := h.cells (Nat.lt_of_le_of_lt (Nat.zero_le _) hi)
  rw [e] at e'
  injection e' with e'
  injection e' with e1 e2
  subst e1 e2
  exact hc i hi
end
structure Bt where
  A : Option Addr
  c : Nat
  L : List KX
  drain : Bool
instance : Inhabited Bt := ⟨⟨none, 0, [], false⟩⟩
def Bt.cells (b : Bt) : List Value := [.slice b.A b.L.length b.c, .bool b.drain]
structure Bt.ok (w : World) (B : Nat) (b : Bt) : Prop where
  kx : KXs w B b.A b.L
  len : b.L.length ≤ 5864062014805
theorem Bt.ok.below {w w' : World} {B : Nat} {b : Bt} (h : b.ok w B) (hb : Below B w w') : b.ok w' B := ⟨h.kx.below hb, h.len⟩
structure Bts (w : World) (B : Nat) (A : Option Addr) (l : List Bt) : Prop where
  reads : Reads w B 2 A l.length (l.flatMap Bt.cells)
  each : ∀ b ∈ l, b.ok w B
theorem Bts.below {w w' : World} {B : Nat} {A : Option Addr} {l : List Bt} (h : Bts w B A l) (hb : Below B w w') : Bts w' B A l := ⟨h.reads.below hb, fun x hx => (h.each x hx).below hb⟩
def bt (l : List Bt) (i : Nat) : Bt := l.getD i default
theorem bt_eq {l : List Bt} {i : Nat} (h : i < l.length) : l[i] = bt l i := by simp [bt, List.getD, List.getElem?_eq_getElem h]
theorem bt_mem {l : List Bt} {i : Nat} (h : i < l.length) : bt l i ∈ l := by rw [← bt_eq h]; exact List.getElem_mem _
theorem Bts.cells_ {w : World} {B : Nat} {A : Option Addr} {l : List Bt} (h : Bts w B A l) (hp : 0 < l.length) : ∃ b off, A = some ⟨b, off, none⟩ ∧ b < B ∧ ∀ i, i < l.length → w.cell? ⟨b, off + i * 2, none⟩ = some (.slice (bt l i).A (bt l i).L.length (bt l i).c) ∧ w.cell? ⟨b, off + i * 2 + 1, none⟩ = some (.bool (bt l i).drain) := by
  obtain ⟨b, off, e, hb, hc⟩ := h.reads.2 hp
  refine ⟨b, off, e, hb, fun i hi => ?_⟩
  have h0 := flatMap_get (cells := Bt.cells) (size := 2) (fun _ => rfl) l i hi 0 (by omega)
  have h1 := flatMap_get (cells := Bt.cells) (size := 2) (fun _ => rfl) l i hi 1 (by omega)
  rw [bt_eq hi] at h0 h1
  exact ⟨hc _ _ h0, by rw [Nat.add_assoc]; exact hc _ _ h1⟩
theorem part_kx {H : Type} {enc : TypeId × Value → H} {W : World} {cs : List Value} {d : DataW H} (hl : cs.length = 2) (h : PartC enc Try.prog W 61 cs d) : ∃ x : KX, okX x ∧ [.string x.1, .int .i64 x.2] = cs := by
  match cs, hl with
  | [c0, c1], _ =>
    obtain ⟨y0, h0⟩ := h.fieldAt Try.underlying61 0 0 1 9 (by kernel_rfl)
    obtain ⟨y1, h1⟩ := h.fieldAt Try.underlying61 1 1 1 3 (by kernel_rfl)
    have h0 : PartC enc Try.prog W 9 [c0] y0 := h0
    have h1 : PartC enc Try.prog W 3 [c1] y1 := h1
    obtain ⟨k, rfl, hk⟩ := h0.one.str Try.underlying9
    obtain ⟨v, rfl, hv⟩ := h1.one.int Try.underlying3
    exact ⟨(k, v), ⟨hk, hv⟩, rfl⟩
theorem part_kxs {H : Type} {enc : TypeId × Value → H} {W : World} {v : Value} {d : DataW H} (h : Part enc Try.prog W 51 v d) :
    ∃ (A : Option Addr) (c : Nat) (l : List KX), v = .slice A l.length c ∧ l.length ≤ c ∧ l.length ≤ 5864062014805 ∧ KXs W W.heap.size A l := by
  obtain ⟨A, c, l, e, hl, _, hby, hr, hg⟩ := h.rows Try.underlying51 (size := 2) (by kernel_rfl) (by decide) (fun x : KX => [.string x.1, .int .i64 x.2]) okX (fun cs y h1 h2 => part_kx h1 h2) (fun _ => rfl)
  have hbz : Try.prog.bytesOf 61 = 24 := by kernel_rfl
  rw [hbz] at hby
  exact ⟨A, c, l, e, hl, by omega, hr, hg⟩
theorem part_bt {H : Type} {enc : TypeId × Value → H} {W : World} {cs : List Value} {d : DataW H} (hl : cs.length = 2) (h : PartC enc Try.prog W 55 cs d) : ∃ b : Bt, b.ok W W.heap.size ∧ b.cells = cs := by
  match cs, hl with
  | [c0, c1], _ =>
    obtain ⟨y0, h0⟩ := h.fieldAt Try.underlying55 0 0 1 51 (by kernel_rfl)
    obtain ⟨y1, h1⟩ := h.fieldAt Try.underlying55 1 1 1 4 (by kernel_rfl)
    have h0 : PartC enc Try.prog W 51 [c0] y0 := h0
    have h1 : PartC enc Try.prog W 4 [c1] y1 := h1
    obtain ⟨A, c, l, rfl, _, hn, hk⟩ := part_kxs h0.one
    obtain ⟨v, rfl⟩ := h1.one.bool Try.underlying4
    exact ⟨⟨A, c, l, v⟩, ⟨hk, hn⟩, rfl⟩
theorem arg_batches {H : Type} {enc : TypeId × Value → H} {W : World} {base : Nat} {v : Value} {d : DataW H} {p : List MemPlace} (h : Arg enc Try.prog W base 42 v d p) :
    ∃ (A : Option Addr) (c : Nat) (l : List Bt), v = .slice A l.length c ∧ l.length ≤ c ∧ l.length ≤ 4398046511104 ∧ Bts W W.heap.size A l := by
  obtain ⟨A0, n0, c0, rfl⟩ := okWide_slice Try.underlying42 h.ok
  obtain ⟨A, c, l, e, hl, _, hby, hr, hg⟩ := (h.part rfl).rows Try.underlying42 (size := 2) (by kernel_rfl) (by decide) Bt.cells (fun x => x.ok W W.heap.size) (fun cs y h1 h2 => part_bt h1 h2) (fun _ => rfl)
  have hbz : Try.prog.bytesOf 55 = 32 := by kernel_rfl
  rw [hbz] at hby
  exact ⟨A, c, l, e, hl, by omega, hr, hg⟩
end By
end Go.Proofs.Ytepfggfideianaa
