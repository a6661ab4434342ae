/- strings.Builder, made by the call itself: what it holds; copyCheck, WriteString, WriteByte, Write. -/
import Derived.Test.YtennddlihcamnaaProg
import Derived.Test.YtennddlihcamnaaMem
import Derived.Lib.Builder
import Derived.Lib.AppendStr
import Derived.Lib.UnsafeStr
import Derived.Laws.Externs
namespace Go.Proofs.Ytennddlihcamnaa
set_option linter.unusedVariables false
set_option linter.unusedSimpArgs false
open Go.RowKit

theorem Try.infoU8b : (Try.prog.info? 5).map (fun i => (i.zero, i.size, i.bytes)) = some (some (.int .u8 0), 1, 1) := by kernel_rfl
theorem Try.infoBld : (Try.prog.info? 86).map (·.size) = some 2 := by kernel_rfl
theorem Try.liesBld : liesAt Try.prog Try.prog.depth 86 (2 / Try.prog.cellsOf 86) 0 86 1 = true := by kernel_rfl

/-- Block b is a builder that holds the bytes l; its row lies from block B on. -/
def Bld (w : World) (B b : Nat) (l : List UInt8) : Prop := Lib.IsBuilder 86 5 B b (l.map byteV) w
/-- Every block that is neither b nor a row of bytes stands. -/
def Kept (b : Nat) (w w' : World) : Prop := ∀ k t cs fr, w.heap[k]? = some (.cells cs t fr) → t ≠ 5 → k ≠ b → w'.heap[k]? = w.heap[k]?
theorem Kept.refl (b : Nat) (w : World) : Kept b w w := fun _ _ _ _ _ _ _ => rfl
theorem Kept.trans {b : Nat} {u v w : World} (h : Kept b u v) (k : Kept b v w) : Kept b u w := fun i t cs fr h1 h2 h3 => by
  have e := h i t cs fr h1 h2 h3
  rw [← e, k i t cs fr (e.trans h1) h2 h3]
theorem Kept.blk {b g : Nat} {w w' : World} {t : TypeId} {cs : Array Value} (h : Kept b w w') (hb : Blk w g t cs) (ht : t ≠ 5) (hg : g ≠ b) : Blk w' g t cs := (h g t cs _ hb ht hg).trans hb
theorem Kept.setCell {b : Nat} {u w : World} (h : Kept b u w) (i : Nat) (x : Value) : Kept b u (w.setCell ⟨b, i, none⟩ x) := fun k t cs fr h1 h2 h3 => by
  rw [Below.heap_setCell w ⟨b, i, none⟩ x k h3]; exact h k t cs fr h1 h2 h3
theorem Kept.alloc {b : Nat} {u w : World} (h : Kept b u w) (hs : u.heap.size ≤ w.heap.size) (o : Obj) : Kept b u (w.alloc o) := fun k t cs fr h1 h2 h3 => by
  have hk : k < u.heap.size := by
    rcases Nat.lt_or_ge k u.heap.size with hlt | hge
    · exact hlt
    · rw [Array.getElem?_eq_none hge] at h1; cases h1
  rw [Below.heap_alloc w o k (by omega)]; exact h k t cs fr h1 h2 h3
theorem Kept.grown {b base n : Nat} {w w' : World} {v : Value} {xs : List Value} (h : w.grownBy w' v.ownBlock) (ho : w.ownsRow base 5 1 v n xs) : Kept b w w' := fun k t cs fr h1 h2 _ => by
  have hk : k < w.heap.size := by
    rcases Nat.lt_or_ge k w.heap.size with hlt | hge
    · exact hlt
    · rw [Array.getElem?_eq_none hge] at h1; cases h1
  refine h.block k hk fun e => ?_
  rcases ho.2 with ⟨rfl, _⟩ | ⟨g, cap, cur, rfl, _, hg, _⟩
  · cases e
  · injection e with e
    subst e
    have h1' := hg.symm.trans h1
    injection h1' with h1'
    injection h1' with _ ht
    exact h2 ht.symm

set_option maxHeartbeats 1000000 in
set_option maxRecDepth 100000 in
theorem copyCheck_fresh (b : Nat) (w : World) (h0 : w.cell? ⟨b, 0, none⟩ = some (.pointer none)) (hsh : w.shape? b = some (86, 2)) (hfz : w.frozen? ⟨b, 0, none⟩ = false) :
    Calls Try.prog 70 #[.pointer (some ⟨b, 0, none⟩)] w fun e w' => e = .returned (.tuple #[]) ∧ w' = w.setCell ⟨b, 0, none⟩ (.pointer (some ⟨b, 0, none⟩)) := by
  obtain ⟨j, hj, hjs⟩ := Option.map_eq_some_iff.1 Try.infoBld
  go_enter Try.func70, Try.ntmps70
  go_wp2
  rw [Lib.run_to_unsafe w ⟨b, 0, none⟩ Try.underlying83 Try.underlying115 hj (by rw [hjs]; decide) hsh (Nat.zero_lt_succ 1)]
  simp only [Result.andThen]
  rw [Oper.upon_value]
  go_wp2
  rw [run_callFunc_extern Try.func83 (by kernel_rfl) (by kernel_rfl) (by kernel_rfl) (e := Extern.AbiNoEscape.same) (by kernel_rfl)]
  rw [Lib.run_noEscape]
  simp only [Result.andThen]
  rw [Oper.upon_value]
  go_wp2
  rw [Lib.run_from_unsafe w ⟨b, 0, none⟩ Try.underlying115 Try.underlying83 hj hsh Try.liesBld]
  simp only [Result.andThen]
  rw [Oper.upon_value]
  go_wp2
  go_end0
  exact ⟨rfl, rfl⟩
set_option maxHeartbeats 1000000 in
set_option maxRecDepth 100000 in
theorem copyCheck_used (b : Nat) (w : World) (h0 : w.cell? ⟨b, 0, none⟩ = some (.pointer (some ⟨b, 0, none⟩))) :
    Calls Try.prog 70 #[.pointer (some ⟨b, 0, none⟩)] w fun e w' => e = .returned (.tuple #[]) ∧ w' = w := by
  obtain ⟨j, hj, _⟩ := Option.map_eq_some_iff.1 Try.infoBld
  go_enter Try.func70, Try.ntmps70
  go_wp2
  rw [Lib.run_neq_ptr_same w _ Try.underlying83 hj]
  go_wp2
  go_end0
  exact ⟨rfl, rfl⟩
theorem copyCheck_calls (B b : Nat) (bs : List UInt8) (w : World) (h : Bld w B b bs) :
    Calls Try.prog 70 #[.pointer (some ⟨b, 0, none⟩)] w fun e w' => e = .returned (.tuple #[]) ∧ (Lib.BuilderAt 86 5 B b (.pointer (some ⟨b, 0, none⟩)) (bs.map byteV) w' ∧ Below B w w' ∧ Kept b w w' ∧ Only b w w') := by
  rcases h with h | h
  · refine (copyCheck_fresh b w h.cell0 h.shape h.frozen0).mono ?_
    rintro e w' ⟨rfl, rfl⟩
    exact ⟨rfl, h.used _, (Below.refl B w).setCell (p := ⟨b, 0, none⟩) h.1 _, (Kept.refl b w).setCell 0 _, (Only.refl b w).setCell (.inl rfl) _⟩
  · refine (copyCheck_used b w h.cell0).mono ?_
    rintro e w' ⟨rfl, rfl⟩
    exact ⟨rfl, h, Below.refl B _, Kept.refl _ _, Only.refl _ _⟩

/-- What is left of a write: the new row is stored. -/
theorem bld_put {w1 w2 : World} {B b : Nat} {v v' : Value} {l m : List UInt8} (hB : B ≤ b) (hbk : w1.heap[b]? = some (.cells #[.pointer (some ⟨b, 0, none⟩), v] 86 (0, 0))) (hown : w1.ownsRow B 5 1 v l.length (l.map byteV)) (hne : v.ownBlock ≠ some b)
    (hown' : w2.ownsRow B 5 1 v' (l ++ m).length ((l ++ m).map byteV)) (hgrow : w1.grownBy w2 v.ownBlock) (hBw : B ≤ w1.heap.size) :
    w2.cell? ⟨b, 0, none⟩ = some (.pointer (some ⟨b, 0, none⟩)) ∧ w2.cell? ⟨b, 1, none⟩ = some v ∧ w2.frozen? ⟨b, 1, none⟩ = false ∧ Bld (w2.setCell ⟨b, 1, none⟩ v') B b (l ++ m) ∧ Below B w1 (w2.setCell ⟨b, 1, none⟩ v') ∧ Kept b w1 (w2.setCell ⟨b, 1, none⟩ v') := by
  have hlt : b < w1.heap.size := by
    rcases Nat.lt_or_ge b w1.heap.size with h' | h'
    · exact h'
    · simp [Array.getElem?_eq_none h'] at hbk
  have hb2 : w2.heap[b]? = some (.cells #[.pointer (some ⟨b, 0, none⟩), v] 86 (0, 0)) := (hgrow.block b hlt (fun e => hne e.symm)).trans hbk
  refine ⟨by rw [Lib.cell_of_heap hb2]; rfl, by rw [Lib.cell_of_heap hb2]; rfl, Lib.frozen_of_heap hb2 1, .inr ?_, ?_, ?_⟩
  · exact Lib.BuilderAt.put (T := 86) (e := 5) hB hb2 (bs' := (l ++ m).map byteV) (by simpa using hown') (by decide)
  · exact ((Below.refl B w1).grown hgrow hBw (fun k hk => (hown.lt k hk).1)).setCell (p := ⟨b, 1, none⟩) hB _
  · exact (Kept.grown hgrow hown).setCell 1 _
theorem own_byteslen {w : World} {base n m : Nat} {t : TypeId} {v : Value} {l r : List UInt8} (h : w.ownsRow base t 1 v (n + m) (l.map byteV ++ r.map byteV)) (hn : n = l.length) (hm : m = r.length) :
    w.ownsRow base t 1 v (l ++ r).length ((l ++ r).map byteV) := by subst hn; subst hm; simpa using h
theorem strlen (s : ByteArray) : s.data.toList.length = s.size := by rw [Array.length_toList]; rfl
theorem own_slice' {w : World} {base n : Nat} {e : TypeId} {v : Value} {xs : List Value} (h : w.ownsRow base e 1 v n xs) : ∃ A c, v = .slice A n c := by
  obtain ⟨A, c, rfl, _⟩ := own_slice h
  exact ⟨A, c, rfl⟩

set_option maxHeartbeats 1000000 in
set_option maxRecDepth 100000 in
theorem wstr_calls (B b : Nat) (l : List UInt8) (s : ByteArray) (w : World) (h : Bld w B b l) (hlen : l.length + s.size ≤ 140737488355328) (hBw : B ≤ w.heap.size) :
    Calls Try.prog 56 #[.pointer (some ⟨b, 0, none⟩), .string s] w fun e w' => e = .returned (.tuple #[.int .i64 s.size, .nilIface]) ∧ Bld w' B b (l ++ s.data.toList) ∧ Below B w w' ∧ Kept b w w' := by
  obtain ⟨i0, hi, hz0, hz1, hz2⟩ := info_parts Try.infoU8b
  go_enter Try.func56, Try.ntmps56
  go_wp2_with fail
  refine (copyCheck_calls B b l w h).mono ?_
  rintro e w1 ⟨rfl, h1, hb1, hk1, ho1⟩
  obtain ⟨hB, v, hbk, hown, hne⟩ := h1
  rw [List.length_map] at hown
  have c0 : w1.cell? ⟨b, 0, none⟩ = some (.pointer (some ⟨b, 0, none⟩)) := by rw [Lib.cell_of_heap hbk]; rfl
  have c1 : w1.cell? ⟨b, 1, none⟩ = some v := by rw [Lib.cell_of_heap hbk]; rfl
  have s1 := hb1.size
  have hBw1 : B ≤ w1.heap.size := by omega
  have HS := Lib.hid (strlen s)
  go_wp2_with (at_builtin; refine Lib.wpList_append_own_string _ rfl _ _ 84 9 rfl B 5 i0 Try.underlying84 Try.underlying9 hi hz0 hz1 hz2 _ _ _ rfl hown s rfl ?c3 ?c4 ?c5 ?_)
  case c3 => unfold maxLen; omega
  case c4 => omega
  case c5 => exact hBw1
  intro v' w2 hown' hgrow _
  have hown2 : w2.ownsRow B 5 1 v' (l ++ s.data.toList).length ((l ++ s.data.toList).map byteV) := own_byteslen (r := s.data.toList) hown' rfl HS.out.symm
  obtain ⟨A, c, rfl⟩ := own_slice' hown'
  obtain ⟨d0, d1, f1, p1, p2, p3⟩ := bld_put hB hbk hown hne hown2 hgrow hBw1
  have P1 := Lib.hid p1
  clear hown' hown2 p1 c0 c1
  go_wp2
  go_ret2
  exact ⟨rfl, P1.out, hb1.trans (p2.mono (Nat.le_refl _)), hk1.trans p3⟩

set_option maxHeartbeats 1000000 in
set_option maxRecDepth 100000 in
theorem wbyte_calls (B b : Nat) (l : List UInt8) (x : UInt8) (w : World) (h : Bld w B b l) (hlen : l.length + 1 ≤ 140737488355328) (hBw : B ≤ w.heap.size) :
    Calls Try.prog 58 #[.pointer (some ⟨b, 0, none⟩), .int .u8 (x.toNat : Int)] w fun e w' => e = .returned .nilIface ∧ Bld w' B b (l ++ [x]) ∧ Below B w w' ∧ Kept b w w' := by
  go_enter Try.func58, Try.ntmps58
  go_wp2_with fail
  refine (copyCheck_calls B b l w h).mono ?_
  rintro e w1 ⟨rfl, h1, hb1, hk1, ho1⟩
  obtain ⟨hB, v, hbk, hown, hne⟩ := h1
  rw [List.length_map] at hown
  have c0 : w1.cell? ⟨b, 0, none⟩ = some (.pointer (some ⟨b, 0, none⟩)) := by rw [Lib.cell_of_heap hbk]; rfl
  have c1 : w1.cell? ⟨b, 1, none⟩ = some v := by rw [Lib.cell_of_heap hbk]; rfl
  have s1 := hb1.size
  have hBw1 : B ≤ w1.heap.size := by omega
  have hbl : b < w1.heap.size := by
    rcases Nat.lt_or_ge b w1.heap.size with h' | h'
    · exact h'
    · simp [Array.getElem?_eq_none h'] at hbk
  go_wp2_with (at_builtin; go_must (refine wpList_push _ rfl (.tmp 11) (.tmp 13) _ rfl B 5 _ 1 Try.underlying84 Try.infoU8b rfl _ _ _ _ _ rfl rfl hown rfl (by unfold maxLen; omega) (by omega) hBw1 ?_))
  intro v' w2 hown' _ hgrow _
  have hown2 := own_snoc hown' rfl
  obtain ⟨A, c, rfl⟩ := own_slice' hown'
  have hbk2 : (w1.alloc (.cells #[.int .u8 (x.toNat : Int)] 5)).heap[b]? = some (.cells #[.pointer (some ⟨b, 0, none⟩), v] 86 (0, 0)) := (Below.heap_alloc w1 _ b hbl).trans hbk
  obtain ⟨d0, d1, f1, p1, p2, p3⟩ := bld_put hB hbk2 (hown.alloc _) hne hown2 hgrow (by simp; omega)
  have P1 := Lib.hid p1
  have p2' : Below B w1 _ := ((Below.refl B w1).alloc hBw1 (.cells #[.int .u8 (x.toNat : Int)] 5)).trans p2
  have p3' : Kept b w1 _ := ((Kept.refl b w1).alloc (Nat.le_refl _) (.cells #[.int .u8 (x.toNat : Int)] 5)).trans p3
  clear hown' hown2 p1 c0 c1 p2 p3
  go_wp2
  go_ret
  exact ⟨rfl, P1.out, hb1.trans p2', hk1.trans p3'⟩

theorem blk_reads {w : World} {g n : Nat} {t : TypeId} {cs : Array Value} {m : List UInt8} (h : Blk w g t cs) (hcs : cs.toList = m.map byteV) (hn : m.length = n) : Reads w w.heap.size 1 (some ⟨g, 0, none⟩) n (m.map byteV) :=
  ⟨by simp [hn], fun _ => ⟨g, 0, rfl, h.lt, fun j u hu => by rw [Nat.zero_add, h.cell j, ← hu, ← hcs]; simp⟩⟩

set_option maxHeartbeats 1000000 in
set_option maxRecDepth 100000 in
theorem wbytes_calls (B b : Nat) (l m : List UInt8) {g n c : Nat} {cs : Array Value} (w : World) (h : Bld w B b l) (hm : Blk w g 5 cs) (hcs : cs.toList = m.map byteV) (hn : m.length = n) (hlen : l.length + n ≤ 140737488355328) (hBw : B ≤ w.heap.size) :
    Calls Try.prog 59 #[.pointer (some ⟨b, 0, none⟩), .slice (some ⟨g, 0, none⟩) n c] w fun e w' => e = .returned (.tuple #[.int .i64 n, .nilIface]) ∧ Bld w' B b (l ++ m) ∧ Below B w w' ∧ Kept b w w' := by
  have hgb : g ≠ b := by
    rintro rfl
    rcases h with ⟨_, v, hb, _⟩ | ⟨_, v, hb, _⟩
    all_goals
      unfold Blk at hm
      rw [hb] at hm
      injection hm with hm
      injection hm with _ ht
      exact absurd ht (by decide)
  go_enter Try.func59, Try.ntmps59
  go_wp2_with fail
  refine (copyCheck_calls B b l w h).mono ?_
  rintro e w1 ⟨rfl, h1, hb1, hk1, ho1⟩
  obtain ⟨hB, v, hbk, hown, hne⟩ := h1
  rw [List.length_map] at hown
  have c0 : w1.cell? ⟨b, 0, none⟩ = some (.pointer (some ⟨b, 0, none⟩)) := by rw [Lib.cell_of_heap hbk]; rfl
  have c1 : w1.cell? ⟨b, 1, none⟩ = some v := by rw [Lib.cell_of_heap hbk]; rfl
  have s1 := hb1.size
  have hBw1 : B ≤ w1.heap.size := by omega
  have hrd := blk_reads (ho1.blk hm hgb) hcs hn
  go_wp2_with (at_builtin; go_must (refine wpList_append_any _ rfl (.tmp 12) (.tmp 13) _ rfl B 5 _ 1 1 Try.underlying84 Try.infoU8b rfl (by omega) _ _ _ rfl hown w1.heap.size _ n c (m.map byteV) rfl hrd (byteV_one _) (by unfold maxLen; omega) (by omega) hBw1 ?_))
  intro v' w2 hown' _ hgrow _
  have hown2 := own_byteslen hown' rfl hn.symm
  obtain ⟨A, c', rfl⟩ := own_slice' hown'
  obtain ⟨d0, d1, f1, p1, p2, p3⟩ := bld_put hB hbk hown hne hown2 hgrow hBw1
  have P1 := Lib.hid p1
  clear hown' hown2 p1 c0 c1 hrd
  go_wp2
  go_ret2
  exact ⟨rfl, P1.out, hb1.trans (p2.mono (Nat.le_refl _)), hk1.trans p3⟩
theorem bld_new (w : World) : Bld (w.alloc (.cells #[.pointer none, .slice none 0 0] 86)) w.heap.size w.heap.size [] :=
  .inl ⟨Nat.le_refl _, .slice none 0 0, heap_alloc_new w _, World.ownsRow_nil _ _ _ _, by simp [Value.ownBlock]⟩
theorem Bld.lt {w : World} {B b : Nat} {l : List UInt8} (h : Bld w B b l) : b < w.heap.size := by
  rcases h with h | h <;> exact h.lt
theorem Bld.alloc {w : World} {B b : Nat} {l : List UInt8} (h : Bld w B b l) (o : Obj) : Bld (w.alloc o) B b l := by
  have hl := h.lt
  rcases h with ⟨h1, v, h2, h3, h4⟩ | ⟨h1, v, h2, h3, h4⟩
  · exact .inl ⟨h1, v, (Below.heap_alloc w o b hl).trans h2, h3.alloc o, h4⟩
  · exact .inr ⟨h1, v, (Below.heap_alloc w o b hl).trans h2, h3.alloc o, h4⟩
theorem Bld.drewN {w : World} {B b : Nat} {l : List UInt8} (h : Bld w B b l) (n : Nat) : Bld (w.drewN n) B b l := h
end Go.Proofs.Ytennddlihcamnaa
