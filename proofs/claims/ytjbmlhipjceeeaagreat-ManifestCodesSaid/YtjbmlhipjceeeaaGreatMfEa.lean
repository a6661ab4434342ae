/- Bytes that grow (chapter 13): a frame by types; numbers behind bytes (u of the document). -/
import Derived.Test.YtjbmlhipjceeeaaGreatMfCe
import Derived.Test.YtjbmlhipjceeeaaGreatMNu
import Derived.Test.YtjbmlhipjceeeaaGreatIns
import Derived.Lib.AppendStr
namespace Go.Proofs.YtjbmlhipjceeeaaGreat.Mf
set_option linter.unusedVariables false
set_option linter.unusedSimpArgs false
open Go.RowKit Go.Proofs.YtjbmlhipjceeeaaGreat

/-- From w to w' no block has turned but b, and blocks of bytes. -/
def KU (b : Option Nat) (w w' : World) : Prop := ∀ k t cs fr, w.heap[k]? = some (.cells cs t fr) → t ≠ 5 → some k ≠ b → w'.heap[k]? = w.heap[k]?
section
variable {w w' w'' : World} {b : Option Nat}
theorem KU.refl (b : Option Nat) (w : World) : KU b w w := fun _ _ _ _ _ _ _ => rfl
theorem KU.trans (h : KU b w w') (h' : KU b w' w'') : KU b w w'' := fun k t cs fr hk ht hb => by
  have h1 := h k t cs fr hk ht hb
  rw [h' k t cs fr (h1.trans hk) ht hb, h1]
theorem KU.below (h : Below w.heap.size w w') : KU b w w' := fun k _ _ _ hk _ _ => h.block k (hlt hk)
theorem KU.low (h : KU none w w') : KU b w w' := fun k t cs fr hk ht _ => h k t cs fr hk ht (by simp)
theorem KU.alloc (h : KU b w w') (o : Obj) : KU b w (w'.alloc o) := h.trans (KU.below ((Below.refl _ _).alloc (Nat.le_refl _) o))
theorem KU.grown {base n : Nat} {v : Value} {xs : List Value} (h : w.grownBy w' v.ownBlock) (ho : w.ownsRow base 5 1 v n xs) : KU b w w' := fun k t cs fr hk ht _ => by
  refine h.block k (hlt hk) fun e => ?_
  rcases ho.2 with ⟨rfl, _⟩ | ⟨g, cap, cur, rfl, _, hg, _⟩
  · cases e
  · injection e with e
    subst e
    rw [hk] at hg
    injection hg with hg
    injection hg with _ hg
    exact ht hg
theorem KU.set (h : KU b w w') {g : Nat} (hb : b = some g) (i : Nat) (v : Value) : KU b w (w'.setCell ⟨g, i, none⟩ v) := fun k t cs fr hk ht hkb => by
  have h1 := h k t cs fr hk ht hkb
  exact (Below.heap_setCell w' ⟨g, i, none⟩ v k (by rintro rfl; exact hkb hb.symm)).trans h1
theorem KU.blk {g : Nat} {t : TypeId} {cs : Array Value} (h : KU b w w') (hg : Blk w g t cs) (ht : t ≠ 5) (hb : some g ≠ b) : Blk w' g t cs := (h g t cs (0, 0) hg ht hb).trans hg
end
theorem strCells_eq (s : ByteArray) : Lib.strCells s = s.data.toList.map byteV := rfl
/-- A slice of bytes that the call may write behind: a row of its own, or one that is full (whatever is frozen behind it). -/
def OwnB (w : World) (base : Nat) (A : Option Addr) (c : Nat) (l : List UInt8) : Prop := w.ownsRow base 5 1 (.slice A l.length c) l.length (l.map byteV) ∨
  ∃ g cs fr, A = some ⟨g, 0, none⟩ ∧ c = l.length ∧ base ≤ g ∧ w.heap[g]? = some (.cells cs 5 fr) ∧ ∀ j u, (l.map byteV)[j]? = some u → w.cell? ⟨g, j, none⟩ = some u
theorem OwnB.below {w w' : World} {base c : Nat} {A : Option Addr} {l : List UInt8} (h : OwnB w base A c l) (hb : Below w.heap.size w w') : OwnB w' base A c l := by
  rcases h with h | ⟨g, cs, fr, rfl, hc, hg, hh, hcell⟩
  · exact .inl (own_below h hb)
  · exact .inr ⟨g, cs, fr, rfl, hc, hg, (hb.block g (hlt hh)).trans hh, fun j u hu => (hb.cell (p := ⟨g, j, none⟩) (hlt hh)).trans (hcell j u hu)⟩
theorem OwnB.bytes {w : World} {base c : Nat} {A : Option Addr} {l : List UInt8} (h : OwnB w base A c l) : Bytes w w.heap.size A l.length l := by
  rcases h with h | ⟨g, cs, fr, rfl, hc, hg, hh, hcell⟩
  · exact own_bytes h
  · refine ⟨rfl, by simp, fun _ => ⟨g, 0, rfl, hlt hh, fun j u hu => ?_⟩⟩
    rw [Nat.zero_add]; exact hcell j u hu
theorem OwnB.cap {w : World} {base c : Nat} {A : Option Addr} {l : List UInt8} (h : OwnB w base A c l) : l.length ≤ c := by
  rcases h with h | ⟨g, cs, fr, rfl, hc, hg, hh, hcell⟩
  · rcases h.2 with ⟨_, h0⟩ | ⟨g, cap, cur, hv, _, _, hc, _⟩
    · omega
    · injection hv with _ _ hv
      omega
  · omega
theorem OwnB.set {w : World} {base c : Nat} {A : Option Addr} {l : List UInt8} (h : OwnB w base A c l) {g : Nat} {t : TypeId} {cs : Array Value} (hg : Blk w g t cs) (ht : t ≠ 5) (i : Nat) (v : Value) : OwnB (w.setCell ⟨g, i, none⟩ v) base A c l := by
  rcases h with h | ⟨g', cs', fr, rfl, hc, hg', hh, hcell⟩
  · refine .inl ⟨h.1, ?_⟩
    rcases h.2 with h2 | ⟨k, cap, cur, hv, hk, hh, rest⟩
    · exact .inl h2
    · have hne : k ≠ g := by
        rintro rfl
        unfold Blk at hg
        rw [hh] at hg
        injection hg with hg
        injection hg with _ hg
        exact ht hg.symm
      exact .inr ⟨k, cap, cur, hv, hk, (Below.heap_setCell w ⟨g, i, none⟩ v k hne).trans hh, rest⟩
  · have hne : g' ≠ g := by
      rintro rfl
      unfold Blk at hg
      rw [hh] at hg
      injection hg with hg
      injection hg with _ hg
      exact ht hg.symm
    exact .inr ⟨g', cs', fr, rfl, hc, hg', (Below.heap_setCell w ⟨g, i, none⟩ v g' hne).trans hh, fun j u hu => (World.cell?_setCell_other w ⟨g, i, none⟩ ⟨g', j, none⟩ v (fun e => hne (by injection e with e; exact e.symm))).trans (hcell j u hu)⟩
section
variable {P : Program} (w : World)
theorem run_append_B (base : Nat) (t ty : TypeId) (ht : P.underlying t = some (.slice 5)) (hi : (P.info? 5).map (fun i => (i.zero, i.size, i.bytes)) = some (some (.int .u8 0), 1, 1))
    {A : Option Addr} {c : Nat} {l : List UInt8} (hown : OwnB w base A c l) {B c2 : Nat} {A2 : Option Addr} {x : List UInt8} (hx : Bytes w B A2 x.length x) (h0 : 0 < x.length) (hl : l.length + x.length ≤ 100000100) (hbase : base ≤ w.heap.size) :
    ∃ A' c' w', (Builtin.append_ #[t, t] ty #[.slice A l.length c, .slice A2 x.length c2]).run P w = .ok (.slice A' (l ++ x).length c') w' ∧ w'.ownsRow base 5 1 (.slice A' (l ++ x).length c') (l ++ x).length ((l ++ x).map byteV) ∧ Below base w w' ∧ KU none w w' := by
  have hlen : (l ++ x).length = l.length + x.length := List.length_append
  rcases hown with h | ⟨g, cs, fr, rfl, rfl, hg, hh, hcell⟩
  · obtain ⟨i, hi, hz, hsz, hby⟩ := info_parts hi
    obtain ⟨v', w', hr, h2, h3, h4⟩ := run_append_any (P := P) w base t ty 5 i _ 1 1 ht hi hz hsz hby rfl (by omega) _ l.length _ h B A2 x.length c2 (x.map byteV) hx.2 (byteV_one _) (by unfold maxLen; omega) (by omega) hbase
    rw [← List.map_append, ← hlen] at h2
    obtain ⟨A', c', rfl, k1, k2, k3⟩ := own_slice h2
    exact ⟨A', c', w', hr, h2, (Below.refl base w).grown h3 hbase (fun k hk => (h.lt k hk).1), KU.grown h3 h⟩
  · obtain ⟨i, hi, hz, hsz, hby⟩ := info_parts hi
    obtain ⟨b2, off, rfl, _, hnews⟩ := hx.2.2 h0
    have hr := run_append_grow (P := P) w t ty 5 i _ ht hi hz ⟨g, 0, none⟩ l.length l.length (l.map byteV) (by rw [hsz]; simp) (fun j u hu => by rw [addr_add, Nat.zero_add]; exact hcell j u hu) ⟨b2, off, none⟩ x.length c2 (x.map byteV) (by rw [hsz]; simp) (fun j u hu => by rw [addr_add]; exact hnews j u hu) (by omega) (by omega) (by rw [hby]; exact growslice_fits (by omega) (by omega))
    have hge := grownCap_ge w (l.length + x.length) l.length 5
    have hcm : grownCap w (l.length + x.length) l.length 5 ≤ maxLen := grownCap_le_maxLen w (l.length + x.length) l.length _ (by unfold maxLen; omega)
    rw [← hlen] at hr hge hcm
    refine ⟨_, _, _, hr, ⟨by simp, .inr ⟨_, _, _, rfl, hbase, heap_alloc_new w.drew _, hge, hcm, ?_, ?_⟩⟩, ?_, ?_⟩
    · have hz1 : (Value.int IntKind.u8 0).cells.size = 1 := rfl
      simp only [Array.size_append, List.size_toArray, size_zeroCells, hz1, List.length_map]
      omega
    · simp only [Array.toList_append, List.append_assoc]
      rw [← List.append_assoc, ← List.map_append, Nat.mul_one]
      have e : (l ++ x).length = ((l ++ x).map byteV).length := by simp
      rw [e]; exact List.take_left
    · exact (below_drewN_ (Below.refl base w) 1).alloc hbase _
    · exact KU.below ((below_drewN_ (Below.refl w.heap.size w) 1).alloc (Nat.le_refl _) _)
theorem wp_append_B {o : Oper} {a : Act} {K : Act → World → Prop} {Q : Exit → Act → World → Prop} (s x : Operand) (t : TypeId)
    (ho : o.op = .call { callee := .builtin .append, args := #[s, x], argTypes := #[t, t] })
    (base : Nat) (ht : P.underlying t = some (.slice 5)) (hi : (P.info? 5).map (fun i => (i.zero, i.size, i.bytes)) = some (some (.int .u8 0), 1, 1))
    {A : Option Addr} {c : Nat} {l : List UInt8} (hs : a.eval s = .slice A l.length c) (hown : OwnB w base A c l) {B c2 : Nat} {A2 : Option Addr} {y : List UInt8} (hx : a.eval x = .slice A2 y.length c2) (hy : Bytes w B A2 y.length y) (h0 : 0 < y.length) (hl : l.length + y.length ≤ 100000100) (hbase : base ≤ w.heap.size)
    (h : ∀ A' c' w', w'.ownsRow base 5 1 (.slice A' (l ++ y).length c') (l ++ y).length ((l ++ y).map byteV) → Below base w w' → KU none w w' → K (a.put o.dst (.slice A' (l ++ y).length c')) w') : o.wp P a w K Q := by
  obtain ⟨A', c', w', hr, h2, h3, h4⟩ := run_append_B (P := P) w base t o.type ht hi hown (c2 := c2) hy h0 hl hbase
  unfold Oper.wp execOp
  simp only [ho, resolve, invoke, builtin, Sem.run_bind, Sem.run_pure, Result.andThen_ok, List.map_toArray, List.map_cons, List.map_nil, hs, hx, hr]
  exact h A' c' w' h2 h3 h4
theorem wpList_append_B {ops : Array Oper} {rest : List Oper} {o : Oper} {a : Act} {Q : Exit → Act → World → Prop} (hgd : o.guard = none) (s x : Operand) (t : TypeId)
    (ho : o.op = .call { callee := .builtin .append, args := #[s, x], argTypes := #[t, t] })
    (base : Nat) (ht : P.underlying t = some (.slice 5)) (hi : (P.info? 5).map (fun i => (i.zero, i.size, i.bytes)) = some (some (.int .u8 0), 1, 1))
    {A : Option Addr} {c : Nat} {l : List UInt8} (hs : a.eval s = .slice A l.length c) (hown : OwnB w base A c l) {B c2 : Nat} {A2 : Option Addr} {y : List UInt8} (hx : a.eval x = .slice A2 y.length c2) (hy : Bytes w B A2 y.length y) (h0 : 0 < y.length) (hl : l.length + y.length ≤ 100000100) (hbase : base ≤ w.heap.size)
    (h : ∀ A' c' w', w'.ownsRow base 5 1 (.slice A' (l ++ y).length c') (l ++ y).length ((l ++ y).map byteV) → Below base w w' → KU none w w' → wpList P ops Q rest (a.put o.dst (.slice A' (l ++ y).length c')) w') : wpList P ops Q (o :: rest) a w :=
  wpList_plain hgd fun _ hK => wp_append_B w s x t ho base ht hi hs hown hx hy h0 hl hbase fun A' c' w' h2 h3 h4 => hK _ _ (h A' c' w' h2 h3 h4)
theorem step_append_B {ops : Array Oper} {o : Oper} {a : Act} {K : Act → World → Prop} {Q : Exit → Act → World → Prop} {E : Prop} (hgd : o.guard = none) (s x : Operand) (t : TypeId)
    (ho : o.op = .call { callee := .builtin .append, args := #[s, x], argTypes := #[t, t] })
    (base : Nat) (ht : P.underlying t = some (.slice 5)) (hi : (P.info? 5).map (fun i => (i.zero, i.size, i.bytes)) = some (some (.int .u8 0), 1, 1))
    {A : Option Addr} {c : Nat} {l : List UInt8} (hs : a.eval s = .slice A l.length c) (hown : OwnB w base A c l) {B c2 : Nat} {A2 : Option Addr} {y : List UInt8} (hx : a.eval x = .slice A2 y.length c2) (hy : Bytes w B A2 y.length y) (h0 : 0 < y.length) (hl : l.length + y.length ≤ 100000100) (hbase : base ≤ w.heap.size)
    (h : ∀ A' c' w', w'.ownsRow base 5 1 (.slice A' (l ++ y).length c') (l ++ y).length ((l ++ y).map byteV) → Below base w w' → KU none w w' → K (a.put o.dst (.slice A' (l ++ y).length c')) w') :
    if Region.wanted o (yielded ops a.tmps) = true then Oper.wp P o a w K Q else E := by
  have hw : Region.wanted o (yielded ops a.tmps) = true := by simp [Region.wanted, hgd]
  rw [if_pos hw]
  exact wp_append_B w s x t ho base ht hi hs hown hx hy h0 hl hbase h
end

section
variable {P : Program} {w : World}
/-- A string's bytes behind a row of bytes, at a step. -/
theorem step_append_str {ops : Array Oper} {o : Oper} {a : Act} {K : Act → World → Prop} {Q : Exit → Act → World → Prop} {E : Prop} (hgd : o.guard = none) (sl x : Operand) (t u : TypeId)
    (ho : o.op = .call { callee := .builtin .append, args := #[sl, x], argTypes := #[t, u] })
    (base : Nat) (e : TypeId) (ht : P.underlying t = some (.slice e)) (hu : P.underlying u = some .string) (hi : (P.info? e).map (fun i => (i.zero, i.size, i.bytes)) = some (some (.int .u8 0), 1, 1))
    {v : Value} {l : List UInt8} (hs : a.eval sl = v) (hown : w.ownsRow base e 1 v l.length (l.map byteV)) {s : ByteArray} (hx : a.eval x = .string s)
    (hl : l.length + s.size ≤ 100000000) (hbase : base ≤ w.heap.size)
    (h : ∀ A' c' w', w'.ownsRow base e 1 (.slice A' (l ++ s.data.toList).length c') (l ++ s.data.toList).length ((l ++ s.data.toList).map byteV) → w.grownBy w' v.ownBlock → K (a.put o.dst (.slice A' (l ++ s.data.toList).length c')) w') :
    if Region.wanted o (yielded ops a.tmps) = true then Oper.wp P o a w K Q else E := by
  have hw : Region.wanted o (yielded ops a.tmps) = true := by simp [Region.wanted, hgd]
  rw [if_pos hw]
  obtain ⟨i, hi, hz, hsz, hby⟩ := info_parts hi
  obtain ⟨v', w', hr, h2, h3, h4⟩ := Lib.run_append_own_string (P := P) w base t u o.type e i ht hu hi hz hsz hby v l.length _ hown s (by unfold maxLen; omega) (by omega) hbase
  have hlen : (l ++ s.data.toList).length = l.length + s.size := by rw [List.length_append]; rfl
  rw [strCells_eq, ← List.map_append, ← hlen] at h2
  obtain ⟨A', c', rfl, k1, k2, k3⟩ := own_slice h2
  unfold Oper.wp execOp
  simp only [ho, resolve, invoke, builtin, Sem.run_bind, Sem.run_pure, Result.andThen_ok, List.map_toArray, List.map_cons, List.map_nil, hs, hx, hr]
  exact h A' c' w' h2 h3
end

section
variable {P : Program} (w : World)
theorem run_append_S (base : Nat) (t u ty : TypeId) (ht : P.underlying t = some (.slice 5)) (hu : P.underlying u = some .string) (hi : (P.info? 5).map (fun i => (i.zero, i.size, i.bytes)) = some (some (.int .u8 0), 1, 1))
    {A : Option Addr} {c : Nat} {l : List UInt8} (hown : OwnB w base A c l) {s : ByteArray} (hl : l.length + s.size ≤ 100000100) (hbase : base ≤ w.heap.size) :
    ∃ A' c' w', (Builtin.append_ #[t, u] ty #[.slice A l.length c, .string s]).run P w = .ok (.slice A' (l ++ s.data.toList).length c') w' ∧ OwnB w' base A' c' (l ++ s.data.toList) ∧ Below base w w' ∧ KU none w w' := by
  have hlen : (l ++ s.data.toList).length = l.length + s.size := by rw [List.length_append]; rfl
  rcases hown with h | ⟨g, cs, fr, rfl, rfl, hg, hh, hcell⟩
  · obtain ⟨i, hi, hz, hsz, hby⟩ := info_parts hi
    obtain ⟨v', w', hr, h2, h3, h4⟩ := Lib.run_append_own_string (P := P) w base t u ty 5 i ht hu hi hz hsz hby _ l.length _ h s (by unfold maxLen; omega) (by omega) hbase
    rw [strCells_eq, ← List.map_append, ← hlen] at h2
    obtain ⟨A', c', rfl, k1, k2, k3⟩ := own_slice h2
    exact ⟨A', c', w', hr, .inl h2, (Below.refl base w).grown h3 hbase (fun k hk => (h.lt k hk).1), KU.grown h3 h⟩
  · obtain ⟨i, hi, hz, hsz, hby⟩ := info_parts hi
    by_cases h0 : s.size = 0
    · have hn : s.data.toList = [] := List.eq_nil_of_length_eq_zero h0
      have hf := Lib.run_firstCells_string (P := P) w 1 s
      have hsc : Lib.strCells s = [] := by unfold Lib.strCells; rw [hn]; rfl
      rw [h0, hsc] at hf
      refine ⟨_, l.length, w, ?_, .inr ⟨g, cs, fr, rfl, by rw [hn, List.append_nil], hg, hh, by rw [hn, List.append_nil]; exact hcell⟩, Below.refl _ _, KU.refl _ _⟩
      rw [hn, List.append_nil]
      simp [Builtin.append_, run_underlying ht, run_underlying hu, sizeOf, typeInfo, hi, hsz, Builtin.lenOf, h0, hf, storeCells]
    · have hr := Lib.run_append_grow_string (P := P) w t u ty 5 i _ ht hu hi hz ⟨g, 0, none⟩ l.length l.length (l.map byteV) (by rw [hsz]; simp) (fun j u hu => by rw [addr_add, Nat.zero_add]; exact hcell j u hu) s (by omega) (by omega) (by rw [hby]; exact growslice_fits (by omega) (by omega))
      have hge := grownCap_ge w (l.length + s.size) l.length 5
      have hcm : grownCap w (l.length + s.size) l.length 5 ≤ maxLen := grownCap_le_maxLen w (l.length + s.size) l.length _ (by unfold maxLen; omega)
      rw [← hlen] at hr hge hcm
      refine ⟨_, _, _, hr, .inl ⟨by simp, .inr ⟨_, _, _, rfl, hbase, heap_alloc_new w.drew _, hge, hcm, ?_, ?_⟩⟩, ?_, ?_⟩
      · have hz1 : (Value.int IntKind.u8 0).cells.size = 1 := rfl
        simp only [Array.size_append, List.size_toArray, size_zeroCells, hz1, List.length_map, Lib.strCells_length]
        omega
      · simp only [Array.toList_append, List.append_assoc]
        rw [← List.append_assoc, strCells_eq, ← List.map_append, Nat.mul_one]
        have e : (l ++ s.data.toList).length = ((l ++ s.data.toList).map byteV).length := by simp
        rw [e]; exact List.take_left
      · exact (below_drewN_ (Below.refl base w) 1).alloc hbase _
      · exact KU.below ((below_drewN_ (Below.refl w.heap.size w) 1).alloc (Nat.le_refl _) _)
theorem wp_append_S {o : Oper} {a : Act} {K : Act → World → Prop} {Q : Exit → Act → World → Prop} (sl x : Operand) (t u : TypeId)
    (ho : o.op = .call { callee := .builtin .append, args := #[sl, x], argTypes := #[t, u] })
    (base : Nat) (ht : P.underlying t = some (.slice 5)) (hu : P.underlying u = some .string) (hi : (P.info? 5).map (fun i => (i.zero, i.size, i.bytes)) = some (some (.int .u8 0), 1, 1))
    {A : Option Addr} {c : Nat} {l : List UInt8} (hs : a.eval sl = .slice A l.length c) (hown : OwnB w base A c l) {s : ByteArray} (hx : a.eval x = .string s) (hl : l.length + s.size ≤ 100000100) (hbase : base ≤ w.heap.size)
    (h : ∀ A' c' w', OwnB w' base A' c' (l ++ s.data.toList) → Below base w w' → KU none w w' → K (a.put o.dst (.slice A' (l ++ s.data.toList).length c')) w') : o.wp P a w K Q := by
  obtain ⟨A', c', w', hr, h2, h3, h4⟩ := run_append_S (P := P) w base t u o.type ht hu hi hown hl hbase
  unfold Oper.wp execOp
  simp only [ho, resolve, invoke, builtin, Sem.run_bind, Sem.run_pure, Result.andThen_ok, List.map_toArray, List.map_cons, List.map_nil, hs, hx, hr]
  exact h A' c' w' h2 h3 h4
theorem wpList_append_str {ops : Array Oper} {rest : List Oper} {o : Oper} {a : Act} {Q : Exit → Act → World → Prop} (hgd : o.guard = none) (sl x : Operand) (t u : TypeId)
    (ho : o.op = .call { callee := .builtin .append, args := #[sl, x], argTypes := #[t, u] })
    (base : Nat) (ht : P.underlying t = some (.slice 5)) (hu : P.underlying u = some .string) (hi : (P.info? 5).map (fun i => (i.zero, i.size, i.bytes)) = some (some (.int .u8 0), 1, 1))
    {A : Option Addr} {c : Nat} {l : List UInt8} (hs : a.eval sl = .slice A l.length c) (hown : OwnB w base A c l) {s : ByteArray} (hx : a.eval x = .string s) (hl : l.length + s.size ≤ 100000100) (hbase : base ≤ w.heap.size)
    (h : ∀ A' c' w', OwnB w' base A' c' (l ++ s.data.toList) → Below base w w' → KU none w w' → wpList P ops Q rest (a.put o.dst (.slice A' (l ++ s.data.toList).length c')) w') : wpList P ops Q (o :: rest) a w :=
  wpList_plain hgd fun _ hK => wp_append_S w sl x t u ho base ht hu hi hs hown hx hl hbase fun A' c' w' h2 h3 h4 => hK _ _ (h A' c' w' h2 h3 h4)
end
/-- Numbers that lie in a block of their own. -/
def Nums (w : World) (g : Nat) (L : List Int) : Prop := ∃ cs : Array Value, Blk w g 3 cs ∧ ∀ j, j < L.length → cs[j]? = some (.int .i64 (gt L j))
theorem Nums.keep {w w' : World} {g : Nat} {L : List Int} {b : Option Nat} (h : Nums w g L) (hk : KU b w w') (hb : some g ≠ b) : Nums w' g L := by
  obtain ⟨cs, h1, h2⟩ := h
  exact ⟨cs, hk.blk h1 (by decide) hb, h2⟩
theorem Nums.cell {w : World} {g : Nat} {L : List Int} (h : Nums w g L) {j : Nat} (hj : j < L.length) : w.cell? ⟨g, j, none⟩ = some (.int .i64 (gt L j)) := by
  obtain ⟨cs, h1, h2⟩ := h
  rw [h1.cell, h2 j hj]
theorem us_take {L : List Int} {j x : Nat} (hj : j < L.length) (hx : gt L j = (x : Int)) : us (L.take (j + 1)) = us (L.take j) ++ Nu.putU x := by
  rw [take_gt hj, us_app, hx]
  simp [us]
theorem us_room {L : List Int} (j : Nat) (h : ∀ n ∈ L, 0 ≤ n ∧ n ≤ 9223372036854775807) : (us (L.take j)).length ≤ 10 * L.length := by
  have := us_len (L.take j) (fun n hn => by have := h n (List.mem_of_mem_take hn); omega)
  have h2 : (L.take j).length ≤ L.length := by rw [List.length_take]; omega
  omega
theorem us_all (L : List Int) : us (L.take L.length) = us L := by rw [List.take_length]

/-- What u hands back. -/
def RetU (base : Nat) (w : World) (l : List UInt8) (e : Ending) (w' : World) : Prop := ∃ A c, e = .returned (.slice A l.length c) ∧ w'.ownsRow base 5 1 (.slice A l.length c) l.length (l.map byteV) ∧ Below base w w' ∧ KU none w w'
set_option maxRecDepth 100000 in
set_option maxHeartbeats 1600000 in
theorem u_calls (w : World) {base g c c2 : Nat} {A : Option Addr} {l : List UInt8} {L : List Int} (hown : OwnB w base A c l) (hL : Nums w g L) (h0 : ∀ n ∈ L, 0 ≤ n ∧ n ≤ 9223372036854775807) (hn : 0 < L.length) (hl : l.length + 10 * L.length ≤ 100000000) (hb : base ≤ w.heap.size) :
    Calls Tryz.prog 57 #[.slice A l.length c, .slice (some ⟨g, 0, none⟩) L.length c2] w (RetU base w (l ++ us L)) := by
  have H0 := Lib.hid h0
  have HN := Lib.hid hn
  clear h0 hn
  have hw0 : Hid (OwnB w base A c (l ++ us (L.take 0))) := Lib.hid (by simpa [us] using hown)
  have hs0 : Value.slice A l.length c = .slice A (l ++ us (L.take 0)).length c := by simp [us]
  have HE := Lib.hid (us_all L)
  rw [hs0]
  clear hs0 hown
  go_enter Tryz.func57, Tryz.ntmps57
  go_wp2
  go_loopw [0, 9] (fun v i wr => ∃ (j : Nat) (A' : Option Addr) (c' : Nat), j ≤ L.length ∧ i = .int .i64 (j : Int) ∧ v = .slice A' (l ++ us (L.take j)).length c' ∧ Hid (OwnB wr base A' c' (l ++ us (L.take j))) ∧ Hid (0 < j → wr.ownsRow base 5 1 (.slice A' (l ++ us (L.take j)).length c') (l ++ us (L.take j)).length ((l ++ us (L.take j)).map byteV)) ∧ Below base w wr ∧ KU none w wr) (fun _ i _ => L.length - (intOf i).toNat)
  case atStart => exact ⟨0, A, c, Nat.zero_le _, rfl, rfl, hw0, Lib.hid (fun h => absurd h (by omega)), Below.refl _ _, KU.refl _ _⟩
  case round =>
    clear hw0
    obtain ⟨j, A', c', hj, rfl, rfl, Hown, Hstr, hbel, hku⟩ := hrel
    by_cases hlt : j < L.length
    · have cj := (hL.keep hku (by simp)).cell hlt
      have hx0 := H0.out _ (gt_mem hlt)
      obtain ⟨x, hx⟩ : ∃ x : Nat, gt L j = (x : Int) := ⟨(gt L j).toNat, by omega⟩
      have Hu : Hid (l ++ us (L.take (j + 1)) = (l ++ us (L.take j)) ++ Nu.putU x) := Lib.hid (by rw [us_take hlt hx, List.append_assoc])
      have Hr := Lib.hid (us_room j H0.out)
      rw [hx] at cj hx0
      clear hx Hstr
      have hpl := Nu.putU_len10 (n := x) (by omega)
      have hpp := Nu.putU_pos x
      have HP := fun W => Nu.putURef_calls x W hpl (by omega)
      have hwx : IntKind.u64.wrap (x : Int) = (x : Int) := by rw [IntKind.wrap_u64]; omega
      have Hsz : Hid ((l ++ us (L.take j)).length + (Nu.putU x).length ≤ 100000100) := Lib.hid (by rw [List.length_append]; have := Hr.out; omega)
      generalize l ++ us (L.take j) = pre at *
      go_wp2_with fail
      refine (HP wr).mono ?_
      rintro e w1 he
      obtain ⟨A1, c1, rfl, hc1, hm1, hb1, hbel1, hown1⟩ := he.opened
      have hown' := Hown.out.below hbel1
      have hbw : base ≤ w1.heap.size := by have := hbel.size; have := hbel1.size; omega
      clear HP he hown1
      go_wp2_with (at_builtin; go_must (refine wpList_append_B _ rfl (.tmp 13) (.tmp 16) _ rfl base Tryz.underlying46 Nu.Tryz.infoU8 rfl hown' rfl hb1 hpp Hsz.out hbw ?_))
      intro A2 c2 w2 hown2 hbel2 hku2
      have hku2 : KU none w w2 := (hku.trans (KU.below hbel1)).trans hku2
      have hbel3 : Below base w w2 := (hbel.trans (hbel1.mono (by have := hbel.size; omega))).trans hbel2
      have Hown2 : Hid (w2.ownsRow base 5 1 (.slice A2 (pre ++ Nu.putU x).length c2) (pre ++ Nu.putU x).length ((pre ++ Nu.putU x).map byteV)) := Lib.hid (by simpa using hown2)
      clear hown2 hown'
      go_wp2
      go_roundw
      case rel => exact ⟨j + 1, A2, c2, by omega, by go_num, by rw [Hu.out, List.length_append], by rw [Hu.out]; exact Lib.hid (.inl Hown2.out), by rw [Hu.out]; exact Lib.hid fun _ => Hown2.out, hbel3, hku2⟩
      case measure => simp [intOf]; omega
    · obtain rfl : j = L.length := by omega
      go_wp2
      go_ret
      rw [HE.out] at *
      exact ⟨A', c', rfl, Hstr.out HN.out, hbel, hku⟩
end Go.Proofs.YtjbmlhipjceeeaaGreat.Mf
