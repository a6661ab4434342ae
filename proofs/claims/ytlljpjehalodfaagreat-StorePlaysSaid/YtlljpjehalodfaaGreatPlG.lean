/- A call of the document's store under way; an upload dropped; does a text begin with another one (chapter 14). -/
import Derived.Test.YtlljpjehalodfaaGreatProg
import Derived.Test.YtlljpjehalodfaaGreatPlS
import Derived.Laws.IdiomStrings
namespace Go.Proofs.YtlljpjehalodfaaGreat
open Go.RowKit
namespace Rf
open St

/-- A call of the document's store under way: the call in block w.heap.size, the reply in the next. -/
structure FR (w w2 : World) (base : Nat) (R : RS) (x : Cl) : Prop where
  turn : Turn w base R w2 R
  b3 : Blk w2 w.heap.size 34 x.cells
  b4 : Blk w2 (w.heap.size + 1) 43 rep0
  foot : ∀ i, R.foot i → i < w.heap.size
  addr : ∀ b, R.addr b → b < w.heap.size
  dat : Bytes w2 w2.heap.size x.A x.d.length x.d
  out : Out R x.A x.d.length
section
variable {w w2 wX wY : World} {base : Nat} {R R' : RS} {x : Cl}
theorem FR.start (h : RAt w base R) (hd : Bytes w w.heap.size x.A x.d.length x.d) (ho : Out R x.A x.d.length) : FR w ((w.alloc (.cells x.cells 34)).alloc (.cells rep0 43)) base R x := by
  have e : (w.alloc (.cells x.cells 34)).heap.size = w.heap.size + 1 := by simp
  have hb : Below w.heap.size w ((w.alloc (.cells x.cells 34)).alloc (.cells rep0 43)) := ((Below.refl _ _).alloc (Nat.le_refl _) _).alloc (by omega) _
  refine ⟨Turn.same h hb, (Blk.new _ _ _).alloc _, ?_, fun i hi => h.foot_lt hi, fun b hb' => h.addr_lt hb', (hd.below hb).more hb.size, ho⟩
  have := Blk.new (w.alloc (.cells x.cells 34)) 43 rep0
  rw [e] at this
  exact this
/-- .. that has turned meanwhile. -/
structure FX (w w2 wX : World) (base : Nat) (R R' : RS) (x : Cl) : Prop where
  fr : FR w w2 base R x
  t : Turn w2 base R wX R'
theorem FR.toX (h : FR w w2 base R x) : FX w w2 w2 base R R x := ⟨h, Turn.same h.turn.at_ (Below.refl _ _)⟩
theorem FX.on (h : FX w w2 wX base R R' x) (hb : Below wX.heap.size wX wY) : FX w w2 wY base R R' x := ⟨h.fr, h.t.on hb⟩
theorem FX.drewN (h : FX w w2 wX base R R' x) (n : Nat) : FX w w2 (wX.drewN n) base R R' x := h.on (below_drewN_ (Below.refl _ _) n)
theorem FX.go {R'' : RS} (h : FX w w2 wX base R R' x) (k : Turn wX base R' wY R'') : FX w w2 wY base R R'' x := ⟨h.fr, h.t.trans k⟩
theorem FX.at_ (h : FX w w2 wX base R R' x) : RAt wX base R' := h.t.at_
theorem FX.g (h : FX w w2 wX base R R' x) : R'.g = R.g := h.t.g
theorem FX.b3 (h : FX w w2 wX base R R' x) : Blk wX w.heap.size 34 x.cells := h.t.keep.blk h.fr.b3 fun hf => by have := h.fr.foot _ hf; omega
theorem FX.b4 (h : FX w w2 wX base R R' x) : Blk wX (w.heap.size + 1) 43 rep0 := h.t.keep.blk h.fr.b4 fun hf => by have := h.fr.foot _ hf; omega
theorem FX.dat (h : FX w w2 wX base R R' x) : Bytes wX wX.heap.size x.A x.d.length x.d := .of (reads_kept h.fr.dat.2 (by omega) h.fr.out h.t.keep)
theorem FX.out (h : FX w w2 wX base R R' x) : Out R' x.A x.d.length := out_kept h.fr.dat.2 h.fr.out h.t.grew
theorem FX.size (h : FX w w2 wX base R R' x) : w.heap.size + 1 < wX.heap.size := h.b4.lt
theorem FX.fin (h : FX w w2 wX base R R' x) (v0 v1 v2 v3 v4 v5 v6 : Value) : Blk (set7 wX (w.heap.size + 1) v0 v1 v2 v3 v4 v5 v6) (w.heap.size + 1) 43 #[v0, v1, v2, v3, v4, v5, v6] ∧ Turn w base R (set7 wX (w.heap.size + 1) v0 v1 v2 v3 v4 v5 v6) R' ∧ Keep (fun i => i = w.heap.size + 1) wX (set7 wX (w.heap.size + 1) v0 v1 v2 v3 v4 v5 v6) :=
  ⟨set7_blk h.b4, h.fr.turn.res h.t (by omega) h.fr.b4.lt (fun i hi => by have := h.fr.foot i hi; omega) (fun b hb => by have := h.fr.addr b hb; omega) set7_keep, set7_keep⟩
end
def RetR (w : World) (base : Nat) (R : RS) (s' : PS) (r : PR) (e : Ending) (w' : World) : Prop :=
  ∃ R' v, e = .returned v ∧ RepAt w.heap.size w' v r ∧ Turn w base R w' R' ∧ Sim R' s'
def cutU (A : Option Addr) (c k : Nat) : Option Addr := if c = k then A else A.map (·.add (k * 4))
set_option maxRecDepth 100000 in
theorem sliceU_at (w : World) (A : Option Addr) (n c k : Nat) (h : k ≤ n) (_hc : n ≤ c) :
    (Instr.slice 27 (.slice A n c) (some (.int .i64 (k : Int))) none none).run Tryz.prog w = .ok (.slice (cutU A c k) (n - k) (c - k)) w := by
  unfold cutU
  have e : ((k : Int)).toNat = k := by omega
  obtain ⟨i, hi, _, hs, _⟩ := info_parts Tryz.infoU
  have hE : Tryz.prog.elem 27 = 74 := by kernel_rfl
  rw [run_slice_l w _ A n c Tryz.underlying27 .i64 _ (by omega) (by omega)]
  rw [hE]
  simp [sliced, Result.andThen, e, sizeOf, typeInfo, hi, hs]
theorem takeU_reads {w : World} {A : Option Addr} {l : List Ru} {n : Nat} (h : Reads w w.heap.size 4 A l.length (uCells l)) (hn : n ≤ l.length) : Reads w w.heap.size 4 A n (uCells (l.take n)) := by
  have := h.take hn
  unfold uCells at this ⊢
  rwa [flat4_take (f := Ru.cells) (s := 4) (fun _ => rfl)] at this
theorem dropU_reads {w : World} {A : Option Addr} {l : List Ru} {n c : Nat} (h : Reads w w.heap.size 4 A l.length (uCells l)) (hn : n ≤ l.length) (hc : l.length ≤ c) : Reads w w.heap.size 4 (cutU A c n) (l.length - n) (uCells (l.drop n)) := by
  have := h.cut hn hc
  unfold uCells at this ⊢
  rw [flat4_drop (f := Ru.cells) (s := 4) (fun _ => rfl)] at this
  exact this
theorem u_one' (x : Ru) : ∀ u ∈ x.cells, u.oneCell' = true := by
  have := u_one [x]
  unfold uCells at this
  rwa [List.flatMap_singleton] at this
theorem takeO_reads' {w : World} {A : Option Addr} {l : List Ro} {n : Nat} (h : Reads w w.heap.size 4 A l.length (oCells l)) (hn : n ≤ l.length) : Reads w w.heap.size 4 A n (oCells (l.take n)) := by
  have := h.take hn
  unfold oCells at this ⊢
  rwa [flat4_take (f := Ro.cells) (s := 4) (fun _ => rfl)] at this
/-- Of uploads one is left out. -/
theorem Turn.cutU {w w' : World} {base : Nat} {R : RS} {l : List Ru} {AU : Option Addr} {cU : Nat} (hA : RAt w' base { R with ups := l, AU := AU, cU := cU }) (hk : Keep R.foot w w') (hg : Grew w R { R with ups := l, AU := AU, cU := cU }) (hl : ∀ u ∈ l, u ∈ R.ups) : Turn w base R w' { R with ups := l, AU := AU, cU := cU } :=
  ⟨hA, hk, hg, fun b hb => .inl (by
    rcases hb with hb | ⟨u, hu, hb⟩
    · exact .inl hb
    · exact .inr ⟨u, hl u hu, hb⟩), rfl⟩
theorem Turn.cutO {w w' : World} {base : Nat} {R : RS} {l : List Ro} {AO : Option Addr} {cO : Nat} (hA : RAt w' base { R with objs := l, AO := AO, cO := cO }) (hk : Keep R.foot w w') (hg : Grew w R { R with objs := l, AO := AO, cO := cO }) (hl : ∀ u ∈ l, u ∈ R.objs) : Turn w base R w' { R with objs := l, AO := AO, cO := cO } :=
  ⟨hA, hk, hg, fun b hb => .inl (by
    rcases hb with ⟨o, ho, hb⟩ | hb
    · exact .inl ⟨o, hl o ho, hb⟩
    · exact .inr hb), rfl⟩
theorem cut_mem {α : Type} {l : List α} {i : Nat} {x : α} (h : x ∈ l.take i ++ l.drop (i + 1)) : x ∈ l := by
  rcases List.mem_append.1 h with h | h
  · exact List.mem_of_mem_take h
  · exact List.mem_of_mem_drop h
theorem cut_len {α : Type} {l : List α} {i : Nat} (h : i < l.length) : (l.take i ++ l.drop (i + 1)).length = i + (l.length - (i + 1)) := by
  rw [List.length_append, List.length_take, List.length_drop]; omega
theorem hasP_slice {u v : ByteArray} (h : v.size ≤ u.size) : ((u.extract 0 v.size).toList == v.toList) = Lib.hasPrefix u.data.toList v.data.toList := by
  rw [ByteArray.toList_eq, ByteArray.toList_eq]
  unfold Lib.hasPrefix
  have hs : v.data.toList.length = v.size := by rw [Array.length_toList]; rfl
  have e : (u.extract 0 v.size).data.toList = u.data.toList.take v.data.toList.length := by
    rw [hs, ByteArray.data_extract, Array.toList_extract]
    simp
  rw [e, Bool.eq_iff_iff, List.isPrefixOf_iff_prefix, beq_iff_eq, List.prefix_iff_eq_take]
  exact eq_comm
theorem hasP_short {u v : ByteArray} (h : ¬ v.size ≤ u.size) : Lib.hasPrefix u.data.toList v.data.toList = false := by
  unfold Lib.hasPrefix
  rw [Bool.eq_false_iff]
  intro hp
  have hl := (List.isPrefixOf_iff_prefix.1 hp).length_le
  rw [Array.length_toList, Array.length_toList] at hl
  exact h hl
set_option maxRecDepth 100000 in
set_option maxHeartbeats 6400000 in
theorem begins_calls (w : World) (a b : ByteArray) : Calls Tryz.prog 29 #[.string a, .string b] w fun e w' => e = .returned (.bool (Lib.hasPrefix a.data.toList b.data.toList)) ∧ w = w' := by
  by_cases hl : b.size ≤ a.size
  · have d1 : decide ((b.size : Int) ≤ (a.size : Int)) = true := dct (by omega)
    have HX := Lib.hid (hasP_slice hl)
    go_enter Tryz.func29, Tryz.ntmps29
    go_wp2
    go_ret
    exact ⟨by rw [← HX.out]; rfl, rfl⟩
  · have d1 : decide ((b.size : Int) ≤ (a.size : Int)) = false := dcf (by omega)
    have HX := Lib.hid (hasP_short hl)
    go_enter Tryz.func29, Tryz.ntmps29
    go_wp2
    go_ret
    exact ⟨by rw [HX.out]; rfl, rfl⟩
set_option maxRecDepth 100000 in
set_option maxHeartbeats 6400000 in
theorem drop_calls (w : World) {base : Nat} {R : RS} (h : RAt w base R) {i : Nat} (hi : i < R.ups.length) (hl : R.ups.length ≤ 100000) : Calls Tryz.prog 32 #[.pointer (some ⟨R.g, 0, none⟩), .int .i64 (i : Int)] w fun e w' => e = .returned (.tuple #[]) ∧ ∃ AU cU, Turn w base R w' { R with ups := R.ups.take i ++ R.ups.drop (i + 1), AU := AU, cU := cU } := by
  have HA := Lib.hid h
  have hic := h.u_len.1
  clear h
  go_enter Tryz.func32, Tryz.ntmps32
  have Hk : Hid (∀ W, Below w.heap.size w W → W.cell? ⟨R.g, 1, none⟩ = some (.slice R.AU R.ups.length R.cU)) := Lib.hid fun W hW => (HA.out.blk.below hW HA.out.blk.lt).cell 1
  have hn0 : (0 : Int) ≤ (i : Int) := by omega
  have hn1 : (i : Int) ≤ (R.ups.length : Int) := by omega
  have hn2 : (i : Int) ≤ (R.cU : Int) := by omega
  have r1 : IntKind.i64.wrap ((i : Int) + 1) = (i : Int) + 1 := by rw [IntKind.wrap_i64]; omega
  have r2 : ((i : Int) + 1).toNat = i + 1 := by omega
  have hn3 : (0 : Int) ≤ (i : Int) + 1 := by omega
  have hn4 : (i : Int) + 1 ≤ (R.ups.length : Int) := by omega
  refine wp_region_T 19 (fun w' => w'.cell? ⟨R.g, 1, none⟩ = some (.slice R.AU R.ups.length R.cU)) (by kernel_rfl) (Hk.out _ (below_drewN_ (Below.refl _ _) 1)) (fun hHeld => ?_)
  have HW0 : Hid (Below w.heap.size w w.drew) := Lib.hid (below_drewN_ (Below.refl _ _) 1)
  generalize w.drew = wd at *
  refine wpAnyT_take (i := 0) (oi := _) (v := ?_) rfl (by kernel_rfl) (fun _ _ _ h => h) (Or.inl ⟨by kernel_rfl, ?_⟩) (by assumption) ?_; rotate_left; (focus (intro w hSw; (try dsimp only at hSw); go_simp; (try with_reducible rfl))); (try simp only [Act.put, List.getElem_toArray, List.getElem_cons_zero, List.setIfInBounds_toArray, List.set_cons_zero, List.set_cons_succ])
  refine wpAnyT_take (i := 2) (oi := _) (v := ?_) rfl (by kernel_rfl) (fun _ _ _ h => h) (Or.inl ⟨by kernel_rfl, ?_⟩) (by assumption) ?_; rotate_left; (focus (intro w hSw; (try dsimp only at hSw); go_simp; (try with_reducible rfl))); (try simp only [Act.put, List.getElem_toArray, List.getElem_cons_zero, List.getElem_cons_succ, List.setIfInBounds_toArray, List.set_cons_zero, List.set_cons_succ])
  refine wpAnyT_take (i := 3) (oi := _) (v := ?_) rfl (by kernel_rfl) (fun _ _ _ h => h) (Or.inl ⟨by kernel_rfl, ?_⟩) (by assumption) ?_; rotate_left; (focus (intro w hSw; (try dsimp only at hSw); go_simp; (try with_reducible rfl))); (try simp only [Act.put, List.getElem_toArray, List.getElem_cons_zero, List.getElem_cons_succ, List.setIfInBounds_toArray, List.set_cons_zero, List.set_cons_succ])
  refine wpAnyT_take (i := 4) (oi := _) (v := ?_) rfl (by kernel_rfl) (fun _ _ _ h => h) (Or.inl ⟨by kernel_rfl, ?_⟩) (by assumption) ?_; rotate_left; (focus (intro w hSw; (try dsimp only at hSw); go_simp; (try with_reducible rfl))); (try simp only [Act.put, List.getElem_toArray, List.getElem_cons_zero, List.getElem_cons_succ, List.setIfInBounds_toArray, List.set_cons_zero, List.set_cons_succ])
  refine wpAnyT_take (i := 5) (oi := _) (v := ?_) rfl (by kernel_rfl) (fun _ _ _ h => h) (Or.inl ⟨by kernel_rfl, ?_⟩) (by assumption) ?_; rotate_left; (focus (intro w hSw; (try dsimp only at hSw); go_simp; (try with_reducible rfl))); (try simp only [Act.put, List.getElem_toArray, List.getElem_cons_zero, List.getElem_cons_succ, List.setIfInBounds_toArray, List.set_cons_zero, List.set_cons_succ])
  refine wpAnyT_take (i := 6) (oi := _) (v := ?_) rfl (by kernel_rfl) (fun _ _ _ h => h) (Or.inl ⟨by kernel_rfl, ?_⟩) (by assumption) ?_; rotate_left; (focus (intro w hSw; (try dsimp only at hSw); go_simp; (try with_reducible rfl))); (try simp only [Act.put, List.getElem_toArray, List.getElem_cons_zero, List.getElem_cons_succ, List.setIfInBounds_toArray, List.set_cons_zero, List.set_cons_succ])
  refine wpAnyT_take (i := 7) (oi := _) (v := ?_) rfl (by kernel_rfl) (fun _ _ _ h => h) (Or.inl ⟨by kernel_rfl, ?_⟩) (by assumption) ?_; rotate_left; (focus (intro w hSw; (try dsimp only at hSw); go_simp; (try with_reducible rfl))); (try simp only [Act.put, List.getElem_toArray, List.getElem_cons_zero, List.getElem_cons_succ, List.setIfInBounds_toArray, List.set_cons_zero, List.set_cons_succ])
  refine wpAnyT_take (i := 9) (oi := _) (v := ?_) rfl (by kernel_rfl) (fun _ _ _ h => h) (Or.inl ⟨by kernel_rfl, ?_⟩) (by assumption) ?_; rotate_left; (focus (intro w hSw; (try dsimp only at hSw); go_simp; (try with_reducible rfl))); (try simp only [Act.put, List.getElem_toArray, List.getElem_cons_zero, List.getElem_cons_succ, List.setIfInBounds_toArray, List.set_cons_zero, List.set_cons_succ])
  refine wpAnyT_take (i := 10) (oi := _) (v := ?_) rfl (by kernel_rfl) (fun _ _ _ h => h) (Or.inl ⟨by kernel_rfl, ?_⟩) (by assumption) ?_; rotate_left; (focus (intro w hSw; (try dsimp only at hSw); go_simp; (try with_reducible rfl))); (try simp only [Act.put, List.getElem_toArray, List.getElem_cons_zero, List.getElem_cons_succ, List.setIfInBounds_toArray, List.set_cons_zero, List.set_cons_succ])
  refine wpAnyT_take (i := 11) (oi := _) (v := ?_) rfl (by kernel_rfl) (fun _ _ _ h => h) (Or.inl ⟨by kernel_rfl, ?_⟩) (by assumption) ?_; rotate_left; (focus (intro w hSw; (try dsimp only at hSw); go_simp; (try with_reducible rfl))); (try simp only [Act.put, List.getElem_toArray, List.getElem_cons_zero, List.getElem_cons_succ, List.setIfInBounds_toArray, List.set_cons_zero, List.set_cons_succ])
  refine wpAnyT_take (i := 12) (oi := _) (v := ?_) rfl (by kernel_rfl) (fun _ _ _ h => h) (Or.inl ⟨by kernel_rfl, ?_⟩) (by assumption) ?_; rotate_left; (focus (intro w hSw; (try dsimp only at hSw); go_simp; (try with_reducible rfl))); (try simp only [Act.put, List.getElem_toArray, List.getElem_cons_zero, List.getElem_cons_succ, List.setIfInBounds_toArray, List.set_cons_zero, List.set_cons_succ])
  refine wpAnyT_take (i := 13) (oi := _) (v := ?_) rfl (by kernel_rfl) (fun _ _ _ h => h) (Or.inl ⟨by kernel_rfl, ?_⟩) (by assumption) ?_; rotate_left; (focus (intro w hSw; (try dsimp only at hSw); go_simp; (try with_reducible rfl))); (try simp only [Act.put, List.getElem_toArray, List.getElem_cons_zero, List.getElem_cons_succ, List.setIfInBounds_toArray, List.set_cons_zero, List.set_cons_succ])
  refine wpAnyT_take (i := 14) (oi := _) (v := ?_) rfl (by kernel_rfl) (fun _ _ _ h => h) (Or.inl ⟨by kernel_rfl, ?_⟩) (by assumption) ?_; rotate_left; (focus (intro w hSw; (try dsimp only at hSw); go_simp; (try with_reducible rfl))); (try simp only [Act.put, List.getElem_toArray, List.getElem_cons_zero, List.getElem_cons_succ, List.setIfInBounds_toArray, List.set_cons_zero, List.set_cons_succ])
  refine wpAnyT_take (i := 15) (oi := _) (v := ?_) rfl (by kernel_rfl) (fun _ _ _ h => h) (Or.inl ⟨by kernel_rfl, ?_⟩) (by assumption) ?_; rotate_left; (focus (intro w hSw; (try dsimp only at hSw); go_simp; (try with_reducible rfl))); (try simp only [Act.put, List.getElem_toArray, List.getElem_cons_zero, List.getElem_cons_succ, List.setIfInBounds_toArray, List.set_cons_zero, List.set_cons_succ])
  refine wpAnyT_one (i := 1) (by kernel_rfl) rfl (fun K hK => ?_); go_simp
  have HW1 : Hid (Below w.heap.size w (wd.alloc (.cells #[] 74))) := Lib.hid (HW0.out.alloc HW0.out.size _)
  have HO1 : Hid ((wd.alloc (.cells #[] 74)).ownsRow wd.heap.size 74 4 (.slice (some ⟨wd.heap.size, 0, none⟩) 0 0) 0 []) := Lib.hid (World.ownsRow_made wd #[] 0 (Nat.le_refl _) (Nat.zero_le _) rfl)
  have hs1 : wd.heap.size ≤ (wd.alloc (.cells #[] 74)).heap.size := by simp
  have hs0 := HW0.out.size
  have hH1 := Hk.out _ HW1.out
  refine hK.out _ _ (fun _ => hH1) ?_
  clear hK K hHeld
  have HRD1 := Lib.hid (HA.out.u_reads.below HW1.out)
  have HRD0 := Lib.hid HA.out.u_reads
  generalize wd.alloc (.cells #[] 74) = w3 at *
  refine wpAnyT_one (i := 8) (by kernel_rfl) rfl (fun K hK => ?_)
  refine step_append_sl _ rfl (.tmp 5) (.tmp 11) _ rfl wd.heap.size 74 _ 4 56 Tryz.underlying27 Tryz.infoU rfl (by omega) _ _ _ rfl HO1.out w.heap.size _ i R.cU (uCells (R.ups.take i)) rfl ((takeU_reads HRD0.out (Nat.le_of_lt hi)).below HW1.out) (u_one _) (by unfold maxLen; omega) (by omega) hs1 ?_
  intro A4 c4 w4 hc41 hc42 hrd4 hbel4 hown4 _ _
  have HW4 := Lib.hid (HW1.out.trans (hbel4.mono hs0))
  have hown4' : w4.ownsRow wd.heap.size 74 4 (.slice A4 i c4) i (uCells (R.ups.take i)) := by simpa using hown4
  have HO4 := Lib.hid hown4'
  have hH4 := Hk.out _ HW4.out
  have hs4 : wd.heap.size ≤ w4.heap.size := Nat.le_trans hs1 hbel4.size
  have e0i : 0 + i = i := Nat.zero_add i
  rw [e0i]
  refine hK.out _ _ (fun _ => hH4) ?_
  clear hK K hc41 hc42 hrd4 hbel4 hown4 hown4' hH1 HO1 e0i
  (try simp only [Act.put, List.getElem_toArray, List.getElem_cons_zero, List.getElem_cons_succ, List.setIfInBounds_toArray, List.set_cons_zero, List.set_cons_succ])
  refine wpAnyT_one (i := 16) (by kernel_rfl) rfl (fun K hK => ?_)
  refine step_append_sl _ rfl (.tmp 12) (.tmp 19) _ rfl wd.heap.size 74 _ 4 56 Tryz.underlying27 Tryz.infoU rfl (by omega) _ _ _ rfl HO4.out w.heap.size (cutU R.AU R.cU (i + 1)) (R.ups.length - (i + 1)) (R.cU - (i + 1)) (uCells (R.ups.drop (i + 1))) rfl ((dropU_reads HRD0.out hi hic).below HW4.out) (u_one _) (by unfold maxLen; omega) (by omega) hs4 ?_
  generalize (if R.cU = i + 1 then R.AU else Option.map (fun x => x.add ((i + 1) * 4)) R.AU) = ac5
  intro A5 c5 w5 hc51 hc52 hrd5 hbel5 hown5 _ _
  have HW5 := Lib.hid (HW4.out.trans (hbel5.mono hs0))
  have hoc : uCells (R.ups.take i) ++ uCells (R.ups.drop (i + 1)) = uCells (R.ups.take i ++ R.ups.drop (i + 1)) := by unfold uCells; rw [List.flatMap_append]
  obtain ⟨m5, hm5⟩ : ∃ m, i + (R.ups.length - (i + 1)) = m := ⟨_, rfl⟩
  have HCL := Lib.hid ((cut_len (l := R.ups) hi).trans hm5)
  rw [hm5] at hown5 ⊢
  have HO5 : Hid (w5.ownsRow w.heap.size 74 4 (.slice A5 (R.ups.take i ++ R.ups.drop (i + 1)).length c5) (R.ups.take i ++ R.ups.drop (i + 1)).length (uCells (R.ups.take i ++ R.ups.drop (i + 1)))) := Lib.hid (by rw [HCL.out, ← hoc]; exact own_base hown5 hs0)
  have hH5 := Hk.out _ HW5.out
  refine hK.out _ _ (fun _ => hH5) ?_
  clear hK K hc51 hc52 hrd5 hbel5 hown5 hoc hH4 HO4
  (try simp only [Act.put, List.getElem_toArray, List.getElem_cons_zero, List.getElem_cons_succ, List.setIfInBounds_toArray, List.set_cons_zero, List.set_cons_succ])
  refine wpAnyT_one (i := 17) (by kernel_rfl) rfl (fun K hK => ?_); go_simp; refine hK.out _ _ (fun _ => hH5) ?_; clear hK K; (try simp only [Act.put, List.getElem_toArray, List.getElem_cons_zero, List.getElem_cons_succ, List.setIfInBounds_toArray, List.set_cons_zero, List.set_cons_succ])
  refine wpAnyT_one (i := 18) (by kernel_rfl) rfl (fun K hK => ?_); go_simp; refine hK.out _ _ (fun _ => hH5) ?_; clear hK K; (try simp only [Act.put, List.getElem_toArray, List.getElem_cons_zero, List.getElem_cons_succ, List.setIfInBounds_toArray, List.set_cons_zero, List.set_cons_succ])
  have f5 := (HA.out.blk.below HW5.out HA.out.blk.lt).frozen 1
  have hnu := HA.out.newU HW5.out HO5.out (fun u hu => .inl (cut_mem hu))
  rw [HCL.out] at hnu
  have HNU := Lib.hid hnu
  clear hnu hm5
  have HTU := Lib.hid (Turn.cutU HNU.out.1 HNU.out.2.1 HNU.out.2.2 (fun u hu => cut_mem hu))
  refine wpAnyT_one (i := 19) (by kernel_rfl) rfl (fun K hK => ?_); go_simp
  refine hK.out _ _ (fun h => absurd rfl h) (wpAnyT_done (by kernel_rfl) ?_ _)
  clear hK K
  go_wp2
  go_end0
  exact ⟨rfl, A5, c5, HTU.out⟩
end Rf
end Go.Proofs.YtlljpjehalodfaaGreat
