/- MergeHeaps: the walk. -/
import Derived.Test.YtophfgijfmdbcaaProg
import Derived.Test.YtophfgijfmdbcaaMeL
import Derived.Test.YtophfgijfmdbcaaHpI
import Derived.Deep.RegionLawGrows
namespace Go.Proofs.Ytophfgijfmdbcaa.lawMergeHeaps
open Go.RowKit Go.Proofs.Ytophfgijfmdbcaa Go.Proofs.Ytophfgijfmdbcaa.So Go.Proofs.Ytophfgijfmdbcaa.Hp

abbrev Act_ := Bool × Int
def actC (a : Act_) : List Value := [.bool a.1, .int .i64 a.2]
theorem act_len : ∀ a, (actC a).length = 2 := fun _ => rfl
def actAt (l : List Act_) (i : Nat) : Act_ := l.getD i (false, 0)
theorem actAt_eq {l : List Act_} {i : Nat} (h : i < l.length) : l[i] = actAt l i := by simp [actAt, List.getD, List.getElem?_eq_getElem h]
def Acts (w : World) (B : Nat) (A : Option Addr) (l : List Act_) : Prop := Reads w B 2 A l.length (l.flatMap actC)
theorem Acts.at_ {w : World} {B : Nat} {A : Option Addr} {l : List Act_} (h : Acts w B A l) (hp : 0 < l.length) : ∃ b off, A = some ⟨b, off, none⟩ ∧ b < B ∧ ∀ i, i < l.length → w.cell? ⟨b, off + i * 2, none⟩ = some (.bool (actAt l i).1) ∧ w.cell? ⟨b, off + i * 2 + 1, none⟩ = some (.int .i64 (actAt l i).2) := by
  obtain ⟨b, off, e, hb, hc⟩ := h.2 hp
  refine ⟨b, off, e, hb, fun i hi => ⟨?_, ?_⟩⟩
  · have := hc (i * 2 + 0) (.bool (actAt l i).1) (by rw [flatMap_get act_len l i hi 0 (by decide), actAt_eq hi]; rfl)
    exact this
  · have := hc (i * 2 + 1) (.int .i64 (actAt l i).2) (by rw [flatMap_get act_len l i hi 1 (by decide), actAt_eq hi]; rfl)
    rw [Nat.add_assoc]
    exact this
theorem arg_acts {H : Type} {enc : TypeId × Value → H} {W : World} {base : Nat} {v : Value} {d : DataW H} {p : List MemPlace} (h : Arg enc Try.prog W base 33 v d p) :
    ∃ (A : Option Addr) (c : Nat) (l : List Act_), v = .slice A l.length c ∧ l.length ≤ 9223372036854775807 ∧ Acts W W.heap.size A l := by
  obtain ⟨A0, n0, c0, rfl⟩ := Go.WideShapes.okWide_slice Try.underlying33 h.ok
  obtain ⟨A, c, l, e, hl, hm, hby, hr, hg⟩ := (h.part rfl).flat Try.underlying33 Try.underlying39 (by kernel_rfl) (by kernel_rfl) (by decide) actC (fun _ => rfl) (fun _ => True) (fun us hu => by
    obtain ⟨y0, t0⟩ := hu 0 _ rfl
    obtain ⟨y1, t1⟩ := hu 1 _ rfl
    obtain ⟨x0, e0⟩ := t0.bool Try.underlying4
    obtain ⟨x1, e1, _⟩ := t1.int Try.underlying3
    refine ⟨(x0, x1), trivial, fun j hj => ?_⟩
    have hj9 : j < 2 := hj
    have : j = 0 ∨ j = 1 := by omega
    rcases this with rfl | rfl
    · rw [e0]; rfl
    · rw [e1]; rfl)
  exact ⟨A, c, l, e, by unfold maxLen at hm; omega, hr⟩

def ltI (a b : Int) : Bool := decide (a < b)
theorem swoI : Swo ltI where
  irr x := dcf (by omega)
  trans x y z h1 h2 := by unfold ltI at *; rw [decide_eq_true_iff] at *; omega
  neg x y z h1 h2 := by unfold ltI at *; rw [decide_eq_false_iff_not] at *; omega
theorem below_calls (x y : Int) (w : World) : Calls Try.prog 16 #[.int .i64 x, .int .i64 y] w fun e w' => e = .returned (.bool (ltI x y)) ∧ Below w.heap.size w w' := by
  go_enter Try.func16, Try.ntmps16
  go_wp2
  go_ret
  exact ⟨rfl, Below.refl _ _⟩
theorem asksI (B : Nat) : Asks (fun _ => True) B 16 #[] ltI where
  keep _ _ _ _ := trivial
  call x y W _ := below_calls x y W
  enter := enters_of Try.func16 (by kernel_rfl) rfl
def FV : Value := .func (.func 16) #[] #[]

/-- A slice of numbers reads. -/
def Ns (w : World) (B : Nat) (A : Option Addr) (l : List Int) : Prop := Reads w B 1 A l.length (l.map (.int .i64))
theorem Ns.at_ {w : World} {B : Nat} {A : Option Addr} {l : List Int} (h : Ns w B A l) (hp : 0 < l.length) : ∃ b off, A = some ⟨b, off, none⟩ ∧ b < B ∧ ∀ i, i < l.length → w.cell? ⟨b, off + i, none⟩ = some (.int .i64 (gt l i)) := by
  obtain ⟨b, off, e, hb, hc⟩ := h.2 hp
  refine ⟨b, off, e, hb, fun i hi => hc i _ ?_⟩
  rw [List.getElem?_map, List.getElem?_eq_getElem hi, ← gt_eq hi]
  rfl
/-- What goes on: the sorted list beside the heap. -/
structure Both (w : World) (B gh : Nat) (Aw : Option Addr) (wl : List Int) (A : Option Addr) (c : Nat) (d : List Int) : Prop where
  ns : Ns w w.heap.size Aw wl
  heap : HI w B gh FV A c d
  ord : Heap ltI d
  srt : Srt ltI wl
  perm : d.Perm wl
  low : ∀ b off, Aw = some ⟨b, off, none⟩ → 0 < wl.length → B ≤ b ∧ b ≠ gh ∧ some b ≠ ownB A
theorem Both.below {w w' : World} {B gh c : Nat} {Aw A : Option Addr} {wl d : List Int} (h : Both w B gh Aw wl A c d) (hb : Below w.heap.size w w') : Both w' B gh Aw wl A c d :=
  ⟨Reads.to h.ns hb hb.size, h.heap.below hb, h.ord, h.srt, h.perm, h.low⟩
theorem root_eq {d wl : List Int} (hd : Heap ltI d) (hs : Srt ltI wl) (hp : d.Perm wl) (h0 : 0 < wl.length) : gt d 0 = gt wl 0 := by
  have hl := hp.length_eq
  have m1 : gt d 0 ∈ wl := hp.mem_iff.1 (by rw [← gt_eq (by omega)]; exact List.getElem_mem _)
  have m2 : gt wl 0 ∈ d := hp.mem_iff.2 (by rw [← gt_eq h0]; exact List.getElem_mem _)
  obtain ⟨j, hj, ej⟩ := List.getElem_of_mem m2
  obtain ⟨i, hi, ei⟩ := List.getElem_of_mem m1
  rw [gt_eq hj] at ej
  rw [gt_eq hi] at ei
  have a1 := root_least swoI hd d.length j (by omega) hj
  have a2 : ltI (gt wl i) (gt wl 0) = false := by
    rcases Nat.eq_zero_or_pos i with h | h
    · subst h; exact swoI.irr _
    · have := List.pairwise_iff_getElem.1 hs 0 i h0 hi h
      rw [gt_eq, gt_eq] at this
      exact this
  rw [ej] at a1
  rw [ei] at a2
  unfold ltI at a1 a2
  rw [decide_eq_false_iff_not] at a1 a2
  omega
theorem tail_perm {d wl : List Int} (hd : Heap ltI d) (hs : Srt ltI wl) (hp : d.Perm wl) (h0 : 0 < wl.length) : (cutLast d).Perm (wl.drop 1) := by
  have hl := hp.length_eq
  have h1 := cutLast_perm (d := d) (by omega)
  have h2 : wl = gt wl 0 :: wl.drop 1 := by
    cases wl with
    | nil => simp at h0
    | cons x r => rfl
  rw [root_eq hd hs hp h0] at h1
  exact ((h1.symm.trans hp).trans (by rw [← h2])).cons_inv
set_option maxRecDepth 100000 in
theorem slice1_at (w : World) (A : Option Addr) (n c k : Nat) (h : k ≤ n) (_hc : n ≤ c) :
    (Instr.slice 37 (.slice A n c) (some (.int .i64 (k : Int))) none none).run Try.prog w = .ok (.slice (cutA A c k 1) (n - k) (c - k)) w := by
  unfold cutA
  have e : ((k : Int)).toNat = k := by omega
  obtain ⟨i, hi, _, hs, _⟩ := info_parts Try.infoInt
  have hE : Try.prog.elem 37 = 3 := by kernel_rfl
  rw [run_slice_l w _ A n c Try.underlying37 .i64 _ (by omega) (by omega)]
  rw [hE]
  simp [sliced, Result.andThen, e, sizeOf, typeInfo, hi, hs]

set_option maxRecDepth 100000 in
theorem slice_full (w : World) (A : Option Addr) (n c k : Nat) (h : k ≤ n) (hc : n ≤ c) (hA : 0 < n → ∃ b off, A = some ⟨b, off, none⟩) :
    (Instr.slice 37 (.slice A n c) none (some (.int .i64 (k : Int))) (some (.int .i64 (k : Int)))).run Try.prog w = .ok (.slice A k k) w := by
  have e : ((k : Int)).toNat = k := by omega
  obtain ⟨i, hi, _, hs, _⟩ := info_parts Try.infoInt
  have hE : Try.prog.elem 37 = 3 := by kernel_rfl
  rw [run_slice_hm w _ A n c Try.underlying37 .i64 .i64 _ _ (by omega) (by omega) (by omega)]
  rw [hE]
  rcases Nat.eq_zero_or_pos k with h0 | h0
  · subst h0
    simp [sliced, Result.andThen, sizeOf, typeInfo, hi, hs]
  · obtain ⟨b, off, rfl⟩ := hA (by omega)
    have hk : k ≠ 0 := by omega
    simp [sliced, Result.andThen, e, sizeOf, typeInfo, hi, hs, hk, addr_add]
theorem srt_tail {wl : List Int} (h : Srt ltI wl) : Srt ltI (wl.drop 1) := List.Pairwise.sublist (List.drop_sublist _ _) h
theorem ns_tail {w : World} {B c : Nat} {A : Option Addr} {wl : List Int} (h : Ns w B A wl) (h1 : 1 ≤ wl.length) (hc : wl.length ≤ c) : Ns w B (cutA A c 1 1) (wl.drop 1) := by
  have := Reads.cutA_ (k := 1) (cap := c) h h1 hc
  unfold Ns
  rw [List.length_drop, List.map_drop]
  simpa using this

theorem ns_fr {w w' : World} {B : Nat} {A : Option Addr} {l : List Int} (h : Ns w B A l) (hb : ∀ b off, A = some ⟨b, off, none⟩ → 0 < l.length → b < w'.heap.size ∧ w'.heap[b]? = w.heap[b]?) : Ns w' w'.heap.size A l :=
  ⟨h.1, fun hn => by
    obtain ⟨b, off, e, hB, hc⟩ := h.2 hn
    obtain ⟨h1, h2⟩ := hb b off e hn
    exact ⟨b, off, e, h1, fun j u hu => (World.cell?_of_block h2).trans (hc j u hu)⟩⟩
theorem cutA_at {A : Option Addr} {c k b off : Nat} (h : cutA A c k 1 = some ⟨b, off, none⟩) (hA : ∃ b' off', A = some ⟨b', off', none⟩) : ∃ off', A = some ⟨b, off', none⟩ := by
  obtain ⟨b', off', rfl⟩ := hA
  unfold cutA at h
  split at h
  · exact ⟨off, h⟩
  · simp only [Option.map_some, addr_add, Option.some.injEq, Addr.mk.injEq] at h
    exact ⟨off', by rw [h.1]⟩
theorem Both.popped {w w' : World} {B gh c cw : Nat} {Aw A : Option Addr} {wl d : List Int} (h : Both w B gh Aw wl A c d) (h0 : 0 < wl.length) (hc : wl.length ≤ cw) (hr : HeapR B gh FV ltI (ownB A) w.heap.size (cutLast d) w') (hf : Fr gh (ownB A) w w') :
    Ns w' w'.heap.size Aw wl ∧ ∃ A' c' d', Both w' B gh (cutA Aw cw 1 1) (wl.drop 1) A' c' d' := by
  obtain ⟨A', c', d', h1, h2, h3, h4⟩ := hr
  have hns : Ns w' w'.heap.size Aw wl := ns_fr h.ns fun b off e hn => by
    obtain ⟨b', off', e', hb, _⟩ := h.ns.2 hn
    rw [e] at e'
    injection e' with e'
    injection e' with e1 _
    subst e1
    obtain ⟨_, k2, k3⟩ := h.low b off e hn
    exact ⟨Nat.lt_of_lt_of_le hb hf.size, hf.block b hb k2 k3⟩
  refine ⟨hns, A', c', d', ns_tail hns h0 hc, h1, h2, srt_tail h.srt, h3.trans (tail_perm h.ord h.srt h.perm h0), fun b off e hn => ?_⟩
  obtain ⟨b', off', e', hb, _⟩ := h.ns.2 h0
  obtain ⟨off2, e2⟩ := cutA_at e ⟨b', off', e'⟩
  obtain ⟨k1, k2, k3⟩ := h.low b off2 e2 h0
  refine ⟨k1, k2, ?_⟩
  rcases h4 with h4 | ⟨k, h4, hk⟩
  · rw [h4]; exact k3
  · rw [h4]
    rw [e2] at e'
    injection e' with e'
    injection e' with e1 _
    intro e3
    injection e3 with e3
    omega
/-- Behind a Push: the list is as it was, the heap has a thing more. -/
structure Mid_ (w : World) (B gh : Nat) (Aw : Option Addr) (wl : List Int) (x : Int) (A : Option Addr) (c : Nat) (d : List Int) : Prop where
  ns : Ns w w.heap.size Aw wl
  heap : HI w B gh FV A c d
  ord : Heap ltI d
  srt : Srt ltI wl
  perm : d.Perm (x :: wl)
theorem Mid_.below {w w' : World} {B gh c : Nat} {Aw A : Option Addr} {wl d : List Int} {x : Int} (h : Mid_ w B gh Aw wl x A c d) (hb : Below w.heap.size w w') : Mid_ w' B gh Aw wl x A c d :=
  ⟨Reads.to h.ns hb hb.size, h.heap.below hb, h.ord, h.srt, h.perm⟩
theorem Both.pushed {w w' : World} {B gh c : Nat} {Aw A : Option Addr} {wl d : List Int} {x : Int} (h : Both w B gh Aw wl A c d) (hr : HeapR B gh FV ltI (ownB A) w.heap.size (x :: d) w') (hf : Fr gh (ownB A) w w') :
    ∃ A' c' d', Mid_ w' B gh Aw wl x A' c' d' := by
  obtain ⟨A', c', d', h1, h2, h3, _⟩ := hr
  have hns : Ns w' w'.heap.size Aw wl := ns_fr h.ns fun b off e hn => by
    obtain ⟨b', off', e', hb, _⟩ := h.ns.2 hn
    rw [e] at e'
    injection e' with e'
    injection e' with e1 _
    subst e1
    obtain ⟨_, k2, k3⟩ := h.low b off e hn
    exact ⟨Nat.lt_of_lt_of_le hb hf.size, hf.block b hb k2 k3⟩
  exact ⟨A', c', d', hns, h1, h2, h.srt, h3.trans (h.perm.cons x)⟩
/-- The new list in memory of its own. -/
theorem Mid_.both {w w' : World} {B gh c n : Nat} {Aw A : Option Addr} {wl d : List Int} {x : Int} {g : Nat} (h : Mid_ w B gh Aw wl x A c d) (hb : Below w.heap.size w w') (hm : mg ltI wl [x] = wl.take n ++ x :: wl.drop n) (hg : w.heap.size ≤ g)
    (ho : Reads w' w'.heap.size 1 (some ⟨g, 0, none⟩) (wl.length + 1) ((mg ltI wl [x]).map (.int .i64))) : Both w' B gh (some ⟨g, 0, none⟩) (mg ltI wl [x]) A c d where
  ns := by
    have e : (mg ltI wl [x]).length = wl.length + 1 := by rw [mg_len]; rfl
    unfold Ns
    rw [e]
    exact ho
  heap := h.heap.below hb
  ord := h.ord
  srt := mg_srt swoI _ _ h.srt (List.pairwise_singleton _ _)
  perm := h.perm.trans ((List.perm_append_comm (l₁ := [x]) (l₂ := wl)).trans (mg_perm _ _).symm)
  low b off e _ := by
    injection e with e
    injection e with e1 _
    subst e1
    have h1 := h.heap.blk.lt
    have h2 := h.heap.low
    refine ⟨by omega, by omega, fun e => ?_⟩
    have := (h.heap.own.lt g (by rw [ownB_eq]; exact e.symm)).2
    omega
/-- append onto a slice without room: a new row. -/
theorem step_full {ops : Array Oper} {o : Oper} {a : Act} {w : World} {K : Act → World → Prop} {Q : Exit → Act → World → Prop} {E : Prop} (hg : o.guard = none) (s x : Operand) (hop : o.op = Op.call { callee := Callee.builtin Builtin.append, args := #[s, x], argTypes := #[37, 37] })
    (A : Option Addr) (n : Nat) (olds : List Value) (hs : a.eval s = .slice A n n) (hr : Reads w w.heap.size 1 A n olds) (A2 : Option Addr) (m c : Nat) (news : List Value) (hx : a.eval x = .slice A2 m c) (hr2 : Reads w w.heap.size 1 A2 m news) (hm : 0 < m)
    (h1c : ∀ u ∈ news, u.oneCell' = true) (hb : n + m ≤ 1099511627776)
    (hK : ∀ g c' w', w'.ownsRow w.heap.size 3 1 (.slice (some ⟨g, 0, none⟩) (n + m) c') (n + m) (olds ++ news) → w.heap.size ≤ g → Below w.heap.size w w' → n + m ≤ c' → K (a.put o.dst (.slice (some ⟨g, 0, none⟩) (n + m) c')) w') :
    if Region.wanted o (yielded ops a.tmps) = true then Oper.wp Try.prog o a w K Q else E := by
  obtain ⟨i0, hi, hz0, hz1, hz2⟩ := info_parts Try.infoInt
  obtain ⟨b2, off2, rfl, _, hc2⟩ := hr2.2 hm
  have hfin : ∀ v' w', w'.ownsRow w.heap.size 3 1 v' (n + m) (olds ++ news) → w.grownBy w' none → K (a.put o.dst v') w' := fun v' w' h1 h2 => by
    obtain ⟨A', c', rfl, _, _, _⟩ := own_slice h1
    obtain ⟨g, rfl, hgb, _, hnc⟩ := own_at h1 (by omega)
    exact hK g c' w' h1 hgb ⟨h2.os, h2.tape, h2.output, h2.size, fun i hi => h2.block i hi (by simp)⟩ hnc
  rcases Nat.eq_zero_or_pos n with h0 | h0
  · have ho : olds = [] := List.eq_nil_of_length_eq_zero (by rw [hr.1, h0])
    cases A with
    | none => exact step_append_grows hg s x _ hop _ i0 _ 1 8 Try.underlying37 hi hz0 hz1 hz2 rfl (by decide) none n n olds hs (fun _ => ⟨h0, h0⟩) hr.1 (fun b e => by cases e) _ m c news hx hr2.1 (fun j u hu => by rw [addr_add]; exact hc2 j u hu) h1c (by omega) (by unfold maxLen; omega) (by omega) hfin
    | some ad => exact step_append_grows hg s x _ hop _ i0 _ 1 8 Try.underlying37 hi hz0 hz1 hz2 rfl (by decide) (some ad) n n olds hs (fun e => by cases e) hr.1 (fun b _ j u hu => by rw [ho] at hu; simp at hu) _ m c news hx hr2.1 (fun j u hu => by rw [addr_add]; exact hc2 j u hu) h1c (by omega) (by unfold maxLen; omega) (by omega) hfin
  · obtain ⟨b1, off1, rfl, _, hc1⟩ := hr.2 h0
    exact step_append_grows hg s x _ hop _ i0 _ 1 8 Try.underlying37 hi hz0 hz1 hz2 rfl (by decide) _ n n olds hs (fun e => by cases e) hr.1 (fun b e j u hu => by injection e with e; subst e; rw [addr_add]; exact hc1 j u hu) _ m c news hx hr2.1 (fun j u hu => by rw [addr_add]; exact hc2 j u hu) h1c (by omega) (by unfold maxLen; omega) (by omega) hfin
theorem int_one (l : List Int) : ∀ u ∈ l.map (Value.int .i64), u.oneCell' = true := by
  intro u hu
  obtain ⟨x, _, rfl⟩ := List.mem_map.1 hu
  rfl
theorem new_calls (w : World) : Calls Try.prog 15 #[FV] w fun e w' => e = .returned (.pointer (some ⟨w.heap.size, 0, none⟩)) ∧ w' = w.alloc (.cells #[.slice none 0 0, FV] 73) := by
  unfold FV
  go_enter Try.func15, Try.ntmps15
  go_wp2
  go_ret
  exact ⟨rfl, rfl⟩
theorem new_both (w : World) : Both (w.alloc (.cells #[.slice none 0 0, FV] 73)) w.heap.size w.heap.size none [] none 0 [] where
  ns := Reads.none_
  heap := ⟨Blk.new _ _ _, Nat.le_refl _, World.ownsRow_nil _ _ _ _⟩
  ord := heap_nil
  srt := Srt.nil
  perm := List.Perm.refl _
  low b off e := by cases e

set_option maxRecDepth 100000 in
set_option maxHeartbeats 6400000 in
theorem early (w : World) {c : Nat} {A : Option Addr} {l : List Act_} (hn : 200 < l.length) (hn2 : l.length ≤ 9223372036854775807) :
    Calls Try.prog 5 #[.slice A l.length c] w fun e w' => e = .returned (.bool true) ∧ Below w.heap.size w w' := by
  have HN := Lib.hid (new_calls w)
  unfold FV at HN
  have d1 : decide ((200 : Int) < (l.length : Int)) = true := dct (by omega)
  go_enter Try.func5, Try.ntmps5
  go_wp2_with fail
  refine HN.out.mono ?_
  rintro e w1 ⟨rfl, rfl⟩
  have hb1 : Below w.heap.size w (w.alloc (.cells #[.slice none 0 0, .func (.func 16) #[] #[]] 73)) := (Below.refl _ _).alloc (Nat.le_refl _) _
  generalize w.alloc (.cells #[.slice none 0 0, .func (.func 16) #[] #[]] 73) = w1 at *
  go_wp2_with fail
  refine (lives_calls w1).mono ?_
  rintro e w2 ⟨rfl, hb2⟩
  go_wp2_with fail
  refine (lives_calls w2).mono ?_
  rintro e w3 ⟨rfl, hb3⟩
  go_wp2
  go_ret
  exact ⟨rfl, hb1.trans ((hb2.mono hb1.size).trans (hb3.mono (by have := hb1.size; have := hb2.size; omega)))⟩

set_option maxRecDepth 100000 in
set_option maxHeartbeats 12800000 in
theorem body (w : World) {B c : Nat} {A : Option Addr} {l : List Act_} (h : Acts w B A l) (hB : B ≤ w.heap.size) (hn : l.length ≤ 200) :
    Calls Try.prog 5 #[.slice A l.length c] w fun e w' => e = .returned (.bool true) ∧ Below w.heap.size w w' := by
  have HN := Lib.hid (new_calls w)
  have HB0 := Lib.hid (new_both w)
  have HL := Lib.hid h
  unfold FV at HN
  have d1 : decide ((200 : Int) < (l.length : Int)) = false := dcf (by omega)
  clear h
  go_enter Try.func5, Try.ntmps5
  go_wp2_with fail
  refine HN.out.mono ?_
  rintro e w1 ⟨rfl, rfl⟩
  have hb1 : Below w.heap.size w (w.alloc (.cells #[.slice none 0 0, FV] 73)) := (Below.refl _ _).alloc (Nat.le_refl _) _
  unfold FV at hb1
  have HB0 : Hid (Both (w.alloc (.cells #[.slice none 0 0, .func (.func 16) #[] #[]] 73)) w.heap.size w.heap.size none [] none 0 []) := HB0
  generalize w.alloc (.cells #[.slice none 0 0, .func (.func 16) #[] #[]] 73) = w1 at *
  go_wp2_with fail
  refine (lives_calls w1).mono ?_
  rintro e w2 ⟨rfl, hb2⟩
  have HB2 : Hid (Both w2 w.heap.size w.heap.size none [] none 0 []) := Lib.hid (HB0.out.below hb2)
  have hb02 := hb1.trans (hb2.mono hb1.size)
  clear hb1 hb2 HB0 HN
  go_wp2
  go_loopw [4, 32] (fun v4 vi wr => ∃ (i wn cw : Nat) (Aw : Option Addr), i ≤ l.length ∧ wn ≤ i ∧ wn ≤ cw ∧ vi = .int .i64 (i : Int) ∧ v4 = .slice Aw wn cw ∧ Hid (∃ wl A c d, wl.length = wn ∧ Both wr w.heap.size w.heap.size Aw wl A c d) ∧ Below w.heap.size w wr) (fun _ vi _ => l.length - (intOf vi).toNat)
  case atStart => exact ⟨0, 0, 0, none, Nat.zero_le _, Nat.le_refl _, Nat.le_refl _, rfl, rfl, Lib.hid ⟨[], none, 0, [], rfl, HB2.out⟩, hb02⟩
  case round =>
    obtain ⟨i, wn, cw, Aw, hil, hwi, hwc, rfl, rfl, HX, hbel⟩ := hrel
    obtain ⟨wo, rfl⟩ : ∃ wo : World, wo = wr := ⟨_, rfl⟩
    have hso := hbel.size
    by_cases hlt : i < l.length
    · obtain ⟨bA, off, hA, hbB, hcell⟩ := Acts.at_ (w := wo) (show Acts wo B A l from Reads.below HL.out (hbel.mono hB)) (by omega)
      obtain ⟨y0, y1⟩ := hcell i hlt
      obtain ⟨wl, Ah, ch, d, hwl, hbo⟩ := HX.out
      have HWL := Lib.hid hwl
      have HBO : Hid (Both (wo.alloc (.cells #[.bool (actAt l i).1, .int .i64 (actAt l i).2] 39)) w.heap.size w.heap.size Aw wl Ah ch d) := Lib.hid (hbo.below ((Below.refl _ _).alloc (Nat.le_refl _) _))
      have hb3 : Below w.heap.size w (wo.alloc (.cells #[.bool (actAt l i).1, .int .i64 (actAt l i).2] 39)) := hbel.alloc hso _
      have HBA : Hid (Blk (wo.alloc (.cells #[.bool (actAt l i).1, .int .i64 (actAt l i).2] 39)) wo.heap.size 39 #[.bool (actAt l i).1, .int .i64 (actAt l i).2]) := Lib.hid (Blk.new _ _ _)
      have hs3 : (wo.alloc (.cells #[.bool (actAt l i).1, .int .i64 (actAt l i).2] 39)).heap.size = wo.heap.size + 1 := by simp
      have hs3' : wo.heap.size < (wo.alloc (.cells #[.bool (actAt l i).1, .int .i64 (actAt l i).2] 39)).heap.size := by omega
      have hgho : w.heap.size < wo.heap.size := hbo.heap.blk.lt
      have HNE : Hid (some wo.heap.size ≠ ownB Ah) := Lib.hid fun e => by
        have := (hbo.heap.own.lt _ (by rw [ownB_eq]; exact e.symm)).2
        omega
      generalize actAt l i = aa at *
      obtain ⟨ap, ax⟩ := aa
      simp only at y0 y1
      subst hA
      clear hcell hwl hbo HX hs3
      have hlw : wl.length = d.length := HBO.out.perm.length_eq.symm
      have hwn1 := HWL.out
      have hd1 : d.length ≤ 200 := by omega
      have hd2 : d.length ≤ wn := by omega
      have hd3 : wn ≤ d.length := by omega
      clear hlw hwn1
      cases ap
      · go_wp2_with fail
        generalize wo.alloc (.cells #[.bool false, .int .i64 ax] 39) = w3 at *
        have HPU := Lib.hid (push_calls (fun _ => True) w.heap.size w.heap.size 16 ch #[] ltI swoI (asksI _) w3 Ah d ax trivial HBO.out.heap HBO.out.ord (by omega))
        obtain ⟨z0, z1⟩ : w3.cell? ⟨wo.heap.size, 0, none⟩ = some (.bool false) ∧ w3.cell? ⟨wo.heap.size, 1, none⟩ = some (.int .i64 ax) := ⟨(HBA.out.cell 0).trans rfl, (HBA.out.cell 1).trans rfl⟩
        refine HPU.out.mono ?_
        rintro e w4 ⟨rfl, hr4, hb4, hf4⟩
        obtain ⟨A4, c4, d4, hmid⟩ := HBO.out.pushed hr4 hf4
        have hbk4 : Blk w4 wo.heap.size 39 #[.bool false, .int .i64 ax] := hf4.blk HBA.out (by omega) HNE.out
        have HM := Lib.hid hmid
        have HBK4 := Lib.hid hbk4
        have hs4 := hf4.size
        have HB4 := Lib.hid (hb3.trans hb4)
        have hbl4 := hbk4.lt
        clear hr4 hb4 hf4 hmid hbk4 HPU HBO HBA z0 z1 hb3
        go_wp2
        go_loopw [9] (fun vn wx => ∃ n : Nat, n ≤ wn ∧ vn = .int .i64 (n : Int) ∧ Hid (∀ q ∈ wl.drop n, ltI ax q = true) ∧ Below w4.heap.size w4 wx) (fun vn _ => (intOf vn).toNat)
        case atStart => exact ⟨wn, Nat.le_refl _, rfl, Lib.hid (by rw [List.drop_of_length_le (by rw [HWL.out]; exact Nat.le_refl _)]; simp), Below.refl _ _⟩
        case round =>
          obtain ⟨n, hnw, rfl, HQ, hb5⟩ := hrel
          have hs5 := hb5.size
          have x1 : wr.cell? ⟨wo.heap.size, 1, none⟩ = some (.int .i64 ax) := ((HBK4.out.below hb5 hbl4).cell 1).trans rfl
          have HMr := Lib.hid (HM.out.below hb5)
          have HB5 := Lib.hid hb5
          clear hb5
          by_cases hn0 : 0 < n
          · obtain ⟨bW, oW, hAW, hbW, hcW⟩ := HMr.out.ns.at_ (by rw [HWL.out]; omega)
            have q1 := hcW (n - 1) (by rw [HWL.out]; omega)
            have HD := Lib.hid (drop_more (lt := ltI) (L := wl) (x := ax) (n := n - 1) (by rw [HWL.out]; omega))
            have HI1 : Hid (ltI ax (gt wl (n - 1)) = false → mg ltI wl [ax] = wl.take n ++ ax :: wl.drop n) := Lib.hid fun hq => ins_at (lt := ltI) swoI (x := ax) (n := n) HMr.out.srt (by rw [HWL.out]; exact hnw) HQ.out (.inr hq)
            generalize gt wl (n - 1) = y at *
            subst hAW
            clear hcW
            have i1 : IntKind.i64.wrap ((n : Int) - 1) = (n : Int) - 1 := IntWalk.i64_in _ (by omega)
            have i2 : ((n : Int) - 1).toNat = n - 1 := by omega
            have i3 : (0 : Int) ≤ (n : Int) - 1 := by omega
            have i4 : (1 : Int) ≤ (n : Int) := by omega
            have i5 : (n : Int) - 1 < (wn : Int) := by omega
            by_cases hc : ax < y
            · have HQ2 : Hid (∀ q ∈ wl.drop (n - 1), ltI ax q = true) := Lib.hid (HD.out (by rw [Nat.sub_add_cancel (by omega)]; exact HQ.out) (dct hc))
              have t1 : decide (ax < y) = true := dct hc
              go_wp2_with fail
              go_quiet (fail)
              clear i1 i2 i3 i4 i5 t1
              go_wp2
              go_roundw
              case rel => exact ⟨n - 1, by omega, by go_num, HQ2, below_drewN_ HB5.out _⟩
              case measure => simp [intOf]; omega
            · have HMG := Lib.hid (HI1.out (dcf hc))
              have t1 : decide (ax < y) = false := dcf hc
              go_wp2_with fail
              go_quiet (fail)
              clear i1 i2 i3 i4 i5 t1
              have hb6 : Below wr.heap.size wr (wr.drewN nq) := below_drewN_ (Below.refl _ _) _
              generalize wr.drewN nq = w5 at *
              clear q1 hc
              have hs6 := hb6.size
              have HM5 := Lib.hid (HMr.out.below hb6)
              have x5 : w5.cell? ⟨wo.heap.size, 1, none⟩ = some (.int .i64 ax) := ((HBK4.out.below (HB5.out.trans (hb6.mono hs5)) hbl4).cell 1).trans rfl
              have HB6 := Lib.hid (HB4.out.trans ((HB5.out.trans (hb6.mono hs5)).mono (by omega)))
              have Hkeep : Hid (∀ W, Below w5.heap.size w5 W → W.cell? ⟨wo.heap.size, 1, none⟩ = some (.int .i64 ax)) := Lib.hid fun W hW => (hW.cell (p := ⟨wo.heap.size, 1, none⟩) (by show wo.heap.size < _; omega)).trans x5
              have hns := HM5.out.ns
              have hrn : Reads w5 w5.heap.size 1 (some ⟨bW, oW, none⟩) wn (wl.map (.int .i64)) := by have h := hns; unfold Ns at h; rw [HWL.out] at h; exact h
              have hr92 := fun W => slice_full W (some ⟨bW, oW, none⟩) wn cw n hnw hwc (fun hp => by obtain ⟨b, off, e, _, _⟩ := hrn.2 hp; exact ⟨b, off, e⟩)
              have hr98 := fun W => slice1_at W (some ⟨bW, oW, none⟩) wn cw n hnw hwc
              have hcut := hrn.cutA_ (k := n) (cap := cw) hnw hwc
              have htk := hrn.take hnw
              rw [Nat.mul_one] at hcut htk
              generalize cutA (some ⟨bW, oW, none⟩) cw n 1 = AC at *
              have hdl : ∀ u ∈ (wl.map (Value.int .i64)).drop n, u.oneCell' = true := fun u hu => int_one wl u (List.mem_of_mem_drop hu)
              obtain ⟨nd, hnd⟩ : ∃ nd, nd = (wl.map (Value.int .i64)).drop n := ⟨_, rfl⟩
              obtain ⟨nt, hnt⟩ : ∃ nt, nt = (wl.map (Value.int .i64)).take n := ⟨_, rfl⟩
              rw [← hnd] at hcut hdl
              rw [← hnt] at htk
              have HNL := Lib.hid (⟨hnd, hnt⟩ : _ ∧ _)
              clear hnd hnt
              have HCUT := Lib.hid hcut
              have HTK := Lib.hid htk
              clear hns hrn hcut htk hb6
              go_wp2_with fail
              have HOWN : Hid ((w5.alloc (.cells #[.int .i64 ax] 3)).drew.ownsRow w5.heap.size 3 1 (.slice (some ⟨w5.heap.size, 0, none⟩) 1 1) 1 ([ax].map (.int .i64))) := Lib.hid (own_new w5 3 #[.int .i64 ax] 1 1 (Nat.le_refl _) (by unfold maxLen; omega) rfl)
              have HCR : Hid (Reads (w5.alloc (.cells #[.int .i64 ax] 3)).drew w5.heap.size 1 AC (wn - n) nd) := Lib.hid (HCUT.out.below (((Below.refl w5.heap.size w5).alloc (Nat.le_refl _) _).drew))
              have HDL := Lib.hid hdl
              have h1l : ∀ u ∈ ([ax].map (Value.int .i64)) ++ nd, u.oneCell' = true := fun u hu => by
                rcases List.mem_append.1 hu with hu | hu
                · exact int_one _ u hu
                · exact hdl u hu
              have H1L := Lib.hid h1l
              clear hdl h1l
              go_region_held3 (fun w' => w'.cell? ⟨wo.heap.size, 1, none⟩ = some (.int .i64 ax)) (exact Hkeep.out _ (by first | assumption | exact below_drewN_ (Below.refl _ _) 1 | exact Below.alloc (below_drewN_ (Below.refl _ _) 1) (Nat.le_refl _) _)) (first | (refine step_append_sl _ rfl (.tmp 95) (.tmp 98) _ rfl w5.heap.size 3 _ 1 8 Try.underlying37 Try.infoInt rfl (by omega) _ _ _ rfl HOWN.out w5.heap.size AC (wn - n) (cw - n) nd rfl HCR.out HDL.out (by unfold maxLen; omega) (by omega) (by simp) ?_; intro A10 c10 w10 hc1 hc2 hrd10 hbel10 hown10 _ _; have he10 : Below w5.heap.size w5 w10 := (((Below.refl w5.heap.size w5).alloc (Nat.le_refl _) (.cells #[.int .i64 ax] 3)).drew).trans hbel10) | (refine step_full rfl (.tmp 92) (.tmp 99) rfl (some ⟨bW, oW, none⟩) n nt rfl (HTK.out.to he10 he10.size) A10 (1 + (wn - n)) c10 ([ax].map (Value.int .i64) ++ nd) rfl hrd10 (by omega) H1L.out (by omega) ?_; intro g11 c11 w11 hown11 hg11 hb11 hnc11; have he11 : Below w5.heap.size w5 w11 := he10.trans (hb11.mono he10.size)))
              have hs10 := he10.size
              have e11 : n + (1 + (wn - n)) = wn + 1 := by omega
              rw [e11] at hown11 hnc11 ⊢
              have hr11 := Reads.of_own hown11
              have HB : Hid (Both w11 w.heap.size w.heap.size (some ⟨g11, 0, none⟩) (mg ltI wl [ax]) A4 c4 d4) := Lib.hid (HM5.out.both he11 HMG.out (by omega) (by
                rw [HWL.out, HMG.out, List.map_append, List.map_cons, List.map_take, List.map_drop, ← HNL.out.1, ← HNL.out.2]
                exact hr11))
              have HB11 := Lib.hid (HB6.out.trans (he11.mono (by omega)))
              have HLN : Hid ((mg ltI wl [ax]).length = wn + 1) := Lib.hid (by rw [mg_len, HWL.out]; rfl)
              have hdl4 := HB.out.perm.length_eq
              rw [HLN.out] at hdl4
              have HLC := Lib.hid (len_calls w11 HB.out.heap)
              rw [hdl4] at HLC
              clear hown11 hr11 hb11 he11 he10 hown10 hbel10 hrd10 hr92 hr98 hdl4
              go_wp2_with fail
              refine HLC.out.mono ?_
              rintro e w12 ⟨rfl, hb12⟩
              have HX2 : Hid (∃ wl A c d, wl.length = wn + 1 ∧ Both w12 w.heap.size w.heap.size (some ⟨g11, 0, none⟩) wl A c d) := Lib.hid ⟨_, _, _, _, HLN.out, HB.out.below hb12⟩
              have hne2 : (((wn + 1 : Nat) : Int) != ((wn + 1 : Nat) : Int)) = false := nef rfl
              go_wp2
              go_roundw
              case rel => exact ⟨i + 1, wn + 1, c11, _, by omega, by omega, hnc11, by go_num, rfl, HX2, HB11.out.trans (hb12.mono (by have := HB11.out.size; omega))⟩
              case measure => simp [intOf]; omega
          · have HMG := Lib.hid (ins_at (lt := ltI) swoI (x := ax) (n := n) HMr.out.srt (by rw [HWL.out]; exact hnw) HQ.out (.inl (by omega)))
            go_wp2_with fail
            go_quiet (fail)
            have hb6 : Below wr.heap.size wr (wr.drewN nq) := below_drewN_ (Below.refl _ _) _
            generalize wr.drewN nq = w5 at *
            have hs6 := hb6.size
            have HM5 := Lib.hid (HMr.out.below hb6)
            have x5 : w5.cell? ⟨wo.heap.size, 1, none⟩ = some (.int .i64 ax) := ((HBK4.out.below (HB5.out.trans (hb6.mono hs5)) hbl4).cell 1).trans rfl
            have HB6 := Lib.hid (HB4.out.trans ((HB5.out.trans (hb6.mono hs5)).mono (by omega)))
            have Hkeep : Hid (∀ W, Below w5.heap.size w5 W → W.cell? ⟨wo.heap.size, 1, none⟩ = some (.int .i64 ax)) := Lib.hid fun W hW => (hW.cell (p := ⟨wo.heap.size, 1, none⟩) (by show wo.heap.size < _; omega)).trans x5
            have hns := HM5.out.ns
            have hrn : Reads w5 w5.heap.size 1 Aw wn (wl.map (.int .i64)) := by have h := hns; unfold Ns at h; rw [HWL.out] at h; exact h
            have hr92 := fun W => slice_full W Aw wn cw n hnw hwc (fun hp => by obtain ⟨b, off, e, _, _⟩ := hrn.2 hp; exact ⟨b, off, e⟩)
            have hr98 := fun W => slice1_at W Aw wn cw n hnw hwc
            have hcut := hrn.cutA_ (k := n) (cap := cw) hnw hwc
            have htk := hrn.take hnw
            rw [Nat.mul_one] at hcut htk
            generalize cutA Aw cw n 1 = AC at *
            have hdl : ∀ u ∈ (wl.map (Value.int .i64)).drop n, u.oneCell' = true := fun u hu => int_one wl u (List.mem_of_mem_drop hu)
            obtain ⟨nd, hnd⟩ : ∃ nd, nd = (wl.map (Value.int .i64)).drop n := ⟨_, rfl⟩
            obtain ⟨nt, hnt⟩ : ∃ nt, nt = (wl.map (Value.int .i64)).take n := ⟨_, rfl⟩
            rw [← hnd] at hcut hdl
            rw [← hnt] at htk
            have HNL := Lib.hid (⟨hnd, hnt⟩ : _ ∧ _)
            clear hnd hnt
            have HCUT := Lib.hid hcut
            have HTK := Lib.hid htk
            clear hns hrn hcut htk hb6
            go_wp2_with fail
            have HOWN : Hid ((w5.alloc (.cells #[.int .i64 ax] 3)).drew.ownsRow w5.heap.size 3 1 (.slice (some ⟨w5.heap.size, 0, none⟩) 1 1) 1 ([ax].map (.int .i64))) := Lib.hid (own_new w5 3 #[.int .i64 ax] 1 1 (Nat.le_refl _) (by unfold maxLen; omega) rfl)
            have HCR : Hid (Reads (w5.alloc (.cells #[.int .i64 ax] 3)).drew w5.heap.size 1 AC (wn - n) nd) := Lib.hid (HCUT.out.below (((Below.refl w5.heap.size w5).alloc (Nat.le_refl _) _).drew))
            have HDL := Lib.hid hdl
            have h1l : ∀ u ∈ ([ax].map (Value.int .i64)) ++ nd, u.oneCell' = true := fun u hu => by
              rcases List.mem_append.1 hu with hu | hu
              · exact int_one _ u hu
              · exact hdl u hu
            have H1L := Lib.hid h1l
            clear hdl h1l
            go_region_held3 (fun w' => w'.cell? ⟨wo.heap.size, 1, none⟩ = some (.int .i64 ax)) (exact Hkeep.out _ (by first | assumption | exact below_drewN_ (Below.refl _ _) 1 | exact Below.alloc (below_drewN_ (Below.refl _ _) 1) (Nat.le_refl _) _)) (first | (refine step_append_sl _ rfl (.tmp 95) (.tmp 98) _ rfl w5.heap.size 3 _ 1 8 Try.underlying37 Try.infoInt rfl (by omega) _ _ _ rfl HOWN.out w5.heap.size AC (wn - n) (cw - n) nd rfl HCR.out HDL.out (by unfold maxLen; omega) (by omega) (by simp) ?_; intro A10 c10 w10 hc1 hc2 hrd10 hbel10 hown10 _ _; have he10 : Below w5.heap.size w5 w10 := (((Below.refl w5.heap.size w5).alloc (Nat.le_refl _) (.cells #[.int .i64 ax] 3)).drew).trans hbel10) | (refine step_full rfl (.tmp 92) (.tmp 99) rfl Aw n nt rfl (HTK.out.to he10 he10.size) A10 (1 + (wn - n)) c10 ([ax].map (Value.int .i64) ++ nd) rfl hrd10 (by omega) H1L.out (by omega) ?_; intro g11 c11 w11 hown11 hg11 hb11 hnc11; have he11 : Below w5.heap.size w5 w11 := he10.trans (hb11.mono he10.size)))
            have hs10 := he10.size
            have e11 : n + (1 + (wn - n)) = wn + 1 := by omega
            rw [e11] at hown11 hnc11 ⊢
            have hr11 := Reads.of_own hown11
            have HB : Hid (Both w11 w.heap.size w.heap.size (some ⟨g11, 0, none⟩) (mg ltI wl [ax]) A4 c4 d4) := Lib.hid (HM5.out.both he11 HMG.out (by omega) (by
              rw [HWL.out, HMG.out, List.map_append, List.map_cons, List.map_take, List.map_drop, ← HNL.out.1, ← HNL.out.2]
              exact hr11))
            have HB11 := Lib.hid (HB6.out.trans (he11.mono (by omega)))
            have HLN : Hid ((mg ltI wl [ax]).length = wn + 1) := Lib.hid (by rw [mg_len, HWL.out]; rfl)
            have hdl4 := HB.out.perm.length_eq
            rw [HLN.out] at hdl4
            have HLC := Lib.hid (len_calls w11 HB.out.heap)
            rw [hdl4] at HLC
            clear hown11 hr11 hb11 he11 he10 hown10 hbel10 hrd10 hr92 hr98 hdl4
            go_wp2_with fail
            refine HLC.out.mono ?_
            rintro e w12 ⟨rfl, hb12⟩
            have HX2 : Hid (∃ wl A c d, wl.length = wn + 1 ∧ Both w12 w.heap.size w.heap.size (some ⟨g11, 0, none⟩) wl A c d) := Lib.hid ⟨_, _, _, _, HLN.out, HB.out.below hb12⟩
            have hne2 : (((wn + 1 : Nat) : Int) != ((wn + 1 : Nat) : Int)) = false := nef rfl
            go_wp2
            go_roundw
            case rel => exact ⟨i + 1, wn + 1, c11, _, by omega, by omega, hnc11, by go_num, rfl, HX2, HB11.out.trans (hb12.mono (by have := HB11.out.size; omega))⟩
            case measure => simp [intOf]; omega
      · by_cases h0 : 0 < wn
        · have h0d : 0 < d.length := by omega
          have hroot := root_eq HBO.out.ord HBO.out.srt HBO.out.perm (by rw [HWL.out]; exact h0)
          have hpo := pop_calls (fun _ => True) w.heap.size w.heap.size 16 ch #[] ltI swoI (asksI _) (wo.alloc (.cells #[.bool true, .int .i64 ax] 39)) Ah d trivial HBO.out.heap HBO.out.ord (by omega) h0d
          rw [hroot] at hpo
          have HPO := Lib.hid hpo
          have t0 : decide (0 < wn) = true := dct h0
          clear hroot hpo
          go_wp2_with fail
          generalize wo.alloc (.cells #[.bool true, .int .i64 ax] 39) = w3 at *
          refine HPO.out.mono ?_
          rintro e w4 ⟨rfl, hr4, hb4, hf4⟩
          obtain ⟨hns4, A4, c4, d4, hbo4⟩ := HBO.out.popped (cw := cw) (by rw [HWL.out]; exact h0) (by rw [HWL.out]; exact hwc) hr4 hf4
          obtain ⟨bW, oW, hAW, hbW, hcW⟩ := hns4.at_ (by rw [HWL.out]; exact h0)
          have q0 : w4.cell? ⟨bW, oW, none⟩ = some (.int .i64 (gt wl 0)) := hcW 0 (by rw [HWL.out]; exact h0)
          have HB4 := Lib.hid (hb3.trans hb4)
          have hs4 := hf4.size
          have hr68 := fun W => slice1_at W Aw wn cw 1 h0 hwc
          have HLD : Hid ((wl.drop 1).length = wn - 1) := Lib.hid (by rw [List.length_drop, HWL.out])
          have hl4 := hbo4.perm.length_eq
          rw [HLD.out] at hl4
          have HBO4 := Lib.hid hbo4
          have hlc := len_calls w4 hbo4.heap
          rw [hl4] at hlc
          have HLC := Lib.hid hlc
          generalize cutA Aw cw 1 1 = AC at *
          generalize gt wl 0 = x0 at *
          subst hAW
          clear hr4 hb4 hf4 hns4 hbo4 hcW hlc hl4 HPO hb3 HBO HBA
          have hne0 : (x0 != x0) = false := nef rfl
          have hr68' : ∀ W, (Instr.slice 37 (.slice (some ⟨bW, oW, none⟩) wn cw) (some (.int .i64 1)) none none).run Try.prog W = .ok (.slice AC (wn - 1) (cw - 1)) W := hr68
          clear hr68
          obtain ⟨wm, hwm⟩ : ∃ wm, wm = wn - 1 := ⟨_, rfl⟩
          have hwm1 : wm ≤ wn := by omega
          have hwm2 : wm ≤ cw - 1 := by omega
          rw [← hwm] at hr68' HLC HLD
          clear hwm
          go_wp2_with fail
          refine HLC.out.mono ?_
          rintro e w5 ⟨rfl, hb5⟩
          have HX2 : Hid (∃ wl A c d, wl.length = wm ∧ Both w5 w.heap.size w.heap.size AC wl A c d) := Lib.hid ⟨_, _, _, _, HLD.out, HBO4.out.below hb5⟩
          have hne2 : ((wm : Int) != (wm : Int)) = false := nef rfl
          go_wp2
          go_roundw
          case rel => exact ⟨i + 1, wm, cw - 1, AC, by omega, by omega, hwm2, by go_num, rfl, HX2, HB4.out.trans (hb5.mono (by omega))⟩
          case measure => simp [intOf]; omega
        · have hd0 : d = [] := List.eq_nil_of_length_eq_zero (by omega)
          have hpo := pop_empty (wo.alloc (.cells #[.bool true, .int .i64 ax] 39)) (by have := HBO.out.heap; rw [hd0] at this; exact this)
          have HPO := Lib.hid hpo
          have t0 : decide (0 < wn) = false := dcf h0
          clear hd0 hpo
          go_wp2_with fail
          generalize wo.alloc (.cells #[.bool true, .int .i64 ax] 39) = w3 at *
          refine HPO.out.mono ?_
          rintro e w4 ⟨rfl, hb4⟩
          have HBO4 := Lib.hid (HBO.out.below hb4)
          have HB4 := Lib.hid (hb3.trans (hb4.mono (by omega)))
          have hs4 := hb4.size
          have hl4 := HBO.out.perm.length_eq
          rw [HWL.out] at hl4
          have hlc := len_calls w4 HBO4.out.heap
          rw [hl4] at hlc
          have HLC := Lib.hid hlc
          clear hlc hl4 hb4 hb3 HPO HBO HBA h0
          go_wp2_with fail
          refine HLC.out.mono ?_
          rintro e w5 ⟨rfl, hb5⟩
          have HX2 : Hid (∃ wl A c d, wl.length = wn ∧ Both w5 w.heap.size w.heap.size Aw wl A c d) := Lib.hid ⟨_, _, _, _, HWL.out, HBO4.out.below hb5⟩
          have hne2 : ((wn : Int) != (wn : Int)) = false := nef rfl
          go_wp2
          go_roundw
          case rel => exact ⟨i + 1, wn, cw, Aw, by omega, by omega, hwc, by go_num, rfl, HX2, HB4.out.trans (hb5.mono (by omega))⟩
          case measure => simp [intOf]; omega
    · obtain rfl : i = l.length := by omega
      go_wp2_with fail
      refine (push_nil wo 1).mono ?_
      rintro e w4 ⟨rfl, hb4⟩
      go_wp2_with fail
      refine (pop_nil w4).mono ?_
      rintro e w5 ⟨rfl, hb5⟩
      go_wp2_with fail
      refine (len_nil w5).mono ?_
      rintro e w6 ⟨rfl, hb6⟩
      go_wp2
      go_ret
      exact ⟨rfl, hbel.trans ((hb4.mono hso).trans ((hb5.mono (by have := hb4.size; omega)).trans (hb6.mono (by have := hb4.size; have := hb5.size; omega))))⟩

theorem walk {H : Type} {enc : TypeId × Value → H} {W : World} {base : Nat} {v0 : Value} {d0 : DataW H} {p0 : List MemPlace} (g0 : Arg enc Try.prog W base 33 v0 d0 p0) :
    Calls Try.prog 5 #[v0] W fun e w' => e = .returned (.bool true) ∧ Below W.heap.size W w' := by
  obtain ⟨A, c, l, rfl, hl, hL⟩ := arg_acts g0
  by_cases hn : 200 < l.length
  · exact early W hn hl
  · exact body W hL (Nat.le_refl _) (by omega)
end Go.Proofs.Ytophfgijfmdbcaa.lawMergeHeaps
