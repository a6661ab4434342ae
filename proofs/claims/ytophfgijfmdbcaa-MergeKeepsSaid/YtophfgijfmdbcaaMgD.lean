/- Lists in order, as one: what stands while they are merged (chapter 16). -/
import Derived.Test.YtophfgijfmdbcaaProg
import Derived.Test.YtophfgijfmdbcaaMgC
import Derived.Test.YtophfgijfmdbcaaRwH
namespace Go.Proofs.Ytophfgijfmdbcaa.Mg
open Go.RowKit Go.Proofs.Ytophfgijfmdbcaa Go.Proofs.Ytophfgijfmdbcaa.So Go.Proofs.Ytophfgijfmdbcaa.Hp Go.Proofs.Ytophfgijfmdbcaa.Hr

def lAll (L : List Lst) : List Rw := L.flatMap Lst.l
theorem lAll_nil : lAll [] = [] := rfl
theorem take_snoc_ {L : List Lst} {k : Nat} (hk : k < L.length) : L.take (k + 1) = L.take k ++ [lt_ L k] := by rw [List.take_succ_eq_append_getElem hk, lt_eq hk]
theorem lAll_take {L : List Lst} {k : Nat} (hk : k < L.length) : lAll (L.take (k + 1)) = lAll (L.take k) ++ (lt_ L k).l := by
  rw [take_snoc_ hk]
  simp [lAll]
theorem lAll_len_le (L : List Lst) (k : Nat) : (lAll (L.take k)).length ≤ (lAll L).length := by
  have := congrArg (fun M => (lAll M).length) (List.take_append_drop k L)
  simp only [lAll, List.flatMap_append, List.length_append] at this
  unfold lAll
  omega
theorem lAll_mem {L : List Lst} {x : Lst} (h : x ∈ L) : x.l.length ≤ (lAll L).length := by
  obtain ⟨a, b, rfl⟩ := List.append_of_mem h
  simp only [lAll, List.flatMap_append, List.flatMap_cons, List.length_append]
  omega
/-- A head's rest lies in memory that stays. -/
structure HdOk (w : World) (B : Nat) (h : Hd) : Prop where
  reads : Reads w B 9 h.A h.rest.length (Sr.flat Rw.c h.rest)
  cap : h.rest.length ≤ h.cp
def mkHd (A : Option Addr) (cp : Nat) (l : List Rw) : Hd := ⟨Sr.gt l 0, l.drop 1, cutR A cp 1 9, cp - 1⟩
theorem mk_list {l : List Rw} (hp : 0 < l.length) : Sr.gt l 0 :: l.drop 1 = l := by
  cases l with
  | nil => simp at hp
  | cons x l => rfl
theorem mk_ok {w : World} {B cp : Nat} {A : Option Addr} {l : List Rw} (h : Reads w B 9 A l.length (Sr.flat Rw.c l)) (hc : l.length ≤ cp) (hp : 0 < l.length) : HdOk w B (mkHd A cp l) := by
  have h1 := Reads.cutR_ (k := 1) (cap := cp) h hp hc
  refine ⟨?_, ?_⟩
  · show Reads w B 9 (cutR A cp 1 9) (l.drop 1).length (Sr.flat Rw.c (l.drop 1))
    rw [List.length_drop, ← flatR_drop Rw.c l 1]
    exact h1
  · show (l.drop 1).length ≤ cp - 1
    rw [List.length_drop]; omega
theorem Mrg.bound {all o : List Rw} {d : List Hd} (h : Mrg all o d) : o.length + d.length ≤ all.length := by
  have h1 := h.perm.length_eq
  rw [List.length_append] at h1
  have h2 : ∀ d : List Hd, d.length ≤ (allH d).length := by
    intro d
    induction d with
    | nil => simp
    | cons a d ih => rw [allH_cons, List.length_cons, List.length_cons, List.length_append]; omega
  have := h2 d
  omega
theorem Mrg.add {all : List Rw} {d : List Hd} {hd : Hd} {l : List Rw} (h : Mrg all [] d) (hl : hd.x :: hd.rest = l) (hs : Srt ltR l) : Mrg (all ++ l) [] (hd :: d) where
  perm := by
    have h1 : (allH d).Perm all := by simpa using h.perm
    rw [List.nil_append, allH_cons, ← List.cons_append, hl]
    exact (List.perm_append_comm).trans (h1.append_right l)
  srt := Srt.nil
  low a ha := by cases ha
  each x hx := by
    rcases List.mem_cons.1 hx with rfl | hx
    · rw [hl]; exact hs
    · exact h.each x hx
/-- A heap of heads behind its pointer: in order, and what was taken out of it. -/
def Heaped (w wr : World) (B : Nat) (all o : List Rw) : Prop := ∃ A c d, HI wr (w.heap.size + 1) (w.heap.size + 1) (FVc w.heap.size) A c d ∧ Heap ltH d ∧ Mrg all o d ∧ (∀ h ∈ d, HdOk w B h) ∧ KC w.heap.size wr
theorem Heaped.below {w w1 w2 : World} {B : Nat} {all o : List Rw} (h : Heaped w w1 B all o) (hb : Below w1.heap.size w1 w2) : Heaped w w2 B all o := by
  obtain ⟨A, c, d, h1, h2, h3, h4, h5⟩ := h
  exact ⟨A, c, d, h1.below hb, h2, h3, h4, Nat.lt_of_lt_of_le h5.1 hb.size, (hb.cell (p := ⟨_, 0, none⟩) h5.1).trans h5.2⟩
theorem KC.keep {w1 w2 : World} {k0 : Nat} (h : KC k0 w1) (hb : Below (k0 + 1) w1 w2) : KC k0 w2 := ⟨Nat.lt_of_lt_of_le h.1 hb.size, (hb.cell (p := ⟨k0, 0, none⟩) (Nat.lt_succ_self _)).trans h.2⟩
theorem HI.grown {w w' : World} {B gh c base n : Nat} {fv : Value} {A : Option Addr} {d : List Hd} {v : Value} {xs : List Value} (h : HI w B gh fv A c d) (hv : w.ownsRow base 58 9 v n xs) (hg : w.grownBy w' v.ownBlock) : HI w' B gh fv A c d := by
  refine ⟨h.blk.grown hg ?_, h.low, own_other h.own hv (by decide) hg⟩
  rcases hv.2 with ⟨rfl, _⟩ | ⟨g, cap, cur, rfl, _, hgg, _⟩
  · intro e; cases e
  · intro e
    have e : gh = g := by injection e
    exact Blk.ne_ h.blk hgg (by decide) e
theorem own_fr {w w' : World} {B gh c base n : Nat} {fv : Value} {A : Option Addr} {d : List Hd} {v : Value} {xs : List Value} (h : HI w B gh fv A c d) (hv : w.ownsRow base 58 9 v n xs) (hf : Fr gh (ownB A) w w') : w'.ownsRow base 58 9 v n xs := by
  refine ⟨hv.1, ?_⟩
  rcases hv.2 with h1 | ⟨g, cap, cur, rfl, hb, hgg, hr⟩
  · exact .inl h1
  · refine .inr ⟨g, cap, cur, rfl, hb, ?_, hr⟩
    refine hf.blk (k := g) hgg (fun e => ?_) (fun e => ?_)
    · exact Blk.ne_ h.blk hgg (by decide) e.symm
    · rcases h.own.2 with ⟨e2, _⟩ | ⟨g', cap', cur', e2, _, hg', _⟩
      · injection e2 with e2
        rw [e2] at e; cases e
      · injection e2 with e2
        rw [e2] at e
        have e : g = g' := by injection e
        exact Blk.ne_ hgg hg' (by decide) e
theorem Heaped.pushed {w w2 : World} {B n0 : Nat} {all o : List Rw} {old : Option Nat} {hd : Hd} {d : List Hd} (hR : HeapR (w.heap.size + 1) (w.heap.size + 1) (FVc w.heap.size) ltH old n0 (hd :: d) w2) (hM : Mrg all o (hd :: d)) (hO : ∀ h ∈ hd :: d, HdOk w B h) (hK : KC w.heap.size w2) : Heaped w w2 B all o := by
  obtain ⟨A, c, d', h1, h2, h3, -⟩ := hR
  exact ⟨A, c, d', h1, h2, hM.of_perm h3.symm, fun h hh => hO h (h3.mem_iff.1 hh), hK⟩
def RetMg (w : World) (L : List Lst) (e : Ending) (w' : World) : Prop := ∃ A' c' o, e = .returned (.slice A' o.length c') ∧ o.Perm (lAll L) ∧ Srt ltR o ∧ w'.ownsRow w.heap.size 58 9 (.slice A' o.length c') o.length (Sr.flat Rw.c o) ∧ Below w.heap.size w w'
/-- What Push promises while lists are merged. -/
theorem push_heaped {w wr : World} {B : Nat} {A : Option Addr} {c : Nat} {d : List Hd} {o all : List Rw} (hd : Hd) (h1 : HI wr (w.heap.size + 1) (w.heap.size + 1) (FVc w.heap.size) A c d) (h2 : Heap ltH d) (hM : Mrg all o (hd :: d)) (hO : ∀ h ∈ hd :: d, HdOk w B h) (hK : KC w.heap.size wr) (hn : all.length ≤ 1099511627776) (W : World) (hW : Below wr.heap.size wr W) :
    Calls Try.prog 51 #[.pointer (some ⟨w.heap.size + 1, 0, none⟩), vH hd] W fun e w' => e = .returned (.tuple #[]) ∧ Heaped w w' B all o ∧ Below (w.heap.size + 1) wr w' ∧ Fr (w.heap.size + 1) (ownB A) wr w' := by
  have hlt := h1.blk.lt
  have hb := hM.bound
  rw [List.length_cons] at hb
  have hkW : KC w.heap.size W := ⟨Nat.lt_of_lt_of_le hK.1 hW.size, (hW.cell (p := ⟨_, 0, none⟩) hK.1).trans hK.2⟩
  refine (push_calls (KC w.heap.size) (w.heap.size + 1) (w.heap.size + 1) _ c _ ltH swoH (asks_of (Nat.lt_succ_self _)) W A d hd hkW (h1.below hW) h2 (by omega)).mono ?_
  rintro e w2 ⟨rfl, hR, hB, hF⟩
  have hB' : Below (w.heap.size + 1) wr w2 := (hW.mono (by omega)).trans hB
  refine ⟨rfl, Heaped.pushed hR hM hO (hK.keep hB'), hB', ?_⟩
  exact ⟨hF.os.trans hW.os, hF.tape.trans hW.tape, hF.output.trans hW.output, Nat.le_trans hW.size hF.size, fun i hi k1 k2 => (hF.block i (Nat.lt_of_lt_of_le hi hW.size) k1 k2).trans (hW.block i hi)⟩
end Go.Proofs.Ytophfgijfmdbcaa.Mg
