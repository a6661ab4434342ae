/- strings.Builder, made by the call itself: what it holds; copyCheck, WriteString, WriteByte, Write. -/
import Derived.Test.YtjbmlhipjceeeaaProg
import Derived.Test.YtjbmlhipjceeeaaMem
import Derived.Lib.Builder
import Derived.Lib.AppendStr
import Derived.Lib.UnsafeStr
import Derived.Laws.Externs
namespace Go.Proofs.Ytjbmlhipjceeeaa.Lb
open Go.RowKit

theorem Try.infoU8b : (Try.prog.info? 5).map (fun i => (i.zero, i.size, i.bytes)) = some (some (.int .u8 0), 1, 1) := by kernel_rfl

/-- Every block that is neither b nor a row of bytes stands. -/
def Kept (b : Nat) (w w' : World) : Prop := ∀ k t cs fr, w.heap[k]? = some (.cells cs t fr) → t ≠ 5 → k ≠ b → w'.heap[k]? = w.heap[k]?
theorem Kept.refl (b : Nat) (w : World) : Kept b w w := fun _ _ _ _ _ _ _ => rfl
theorem Kept.trans {b : Nat} {u v w : World} (h : Kept b u v) (k : Kept b v w) : Kept b u w := fun i t cs fr h1 h2 h3 => by
  have e := h i t cs fr h1 h2 h3
  rw [← e, k i t cs fr (e.trans h1) h2 h3]
theorem Kept.blk {b g : Nat} {w w' : World} {t : TypeId} {cs : Array Value} (h : Kept b w w') (hb : Blk w g t cs) (ht : t ≠ 5) (hg : g ≠ b) : Blk w' g t cs := (h g t cs _ hb ht hg).trans hb
theorem Kept.setCell {b : Nat} {u w : World} (h : Kept b u w) (i : Nat) (x : Value) : Kept b u (w.setCell ⟨b, i, none⟩ x) := fun k t cs fr h1 h2 h3 => by
  rw [Below.heap_setCell w ⟨b, i, none⟩ x k h3]; exact h k t cs fr h1 h2 h3
theorem Kept.alloc {b : Nat} {u w : World} (h : Kept b u w) (hs : u.heap.size ≤ w.heap.size) (o : Obj) : Kept b u (w.alloc o) := fun k t cs fr h1 h2 h3 => by
  have hk : k < u.heap.size := by
    rcases Nat.lt_or_ge k u.heap.size with hlt | hge
    · exact hlt
    · rw [Array.getElem?_eq_none hge] at h1; cases h1
  rw [Below.heap_alloc w o k (by omega)]; exact h k t cs fr h1 h2 h3
theorem Kept.grown {b base n : Nat} {w w' : World} {v : Value} {xs : List Value} (h : w.grownBy w' v.ownBlock) (ho : w.ownsRow base 5 1 v n xs) : Kept b w w' := fun k t cs fr h1 h2 _ => by
  have hk : k < w.heap.size := by
    rcases Nat.lt_or_ge k w.heap.size with hlt | hge
    · exact hlt
    · rw [Array.getElem?_eq_none hge] at h1; cases h1
  refine h.block k hk fun e => ?_
  rcases ho.2 with ⟨rfl, _⟩ | ⟨g, cap, cur, rfl, _, hg, _⟩
  · cases e
  · injection e with e
    subst e
    have h1' := hg.symm.trans h1
    injection h1' with h1'
    injection h1' with _ ht
    exact h2 ht.symm


theorem own_byteslen {w : World} {base n m : Nat} {t : TypeId} {v : Value} {l r : List UInt8} (h : w.ownsRow base t 1 v (n + m) (l.map byteV ++ r.map byteV)) (hn : n = l.length) (hm : m = r.length) :
    w.ownsRow base t 1 v (l ++ r).length ((l ++ r).map byteV) := by subst hn; subst hm; simpa using h
theorem strlen (s : ByteArray) : s.data.toList.length = s.size := by rw [Array.length_toList]; rfl
theorem own_slice' {w : World} {base n : Nat} {e : TypeId} {v : Value} {xs : List Value} (h : w.ownsRow base e 1 v n xs) : ∃ A c, v = .slice A n c := by
  obtain ⟨A, c, rfl, _⟩ := own_slice h
  exact ⟨A, c, rfl⟩



theorem blk_reads {w : World} {g n : Nat} {t : TypeId} {cs : Array Value} {m : List UInt8} (h : Blk w g t cs) (hcs : cs.toList = m.map byteV) (hn : m.length = n) : Reads w w.heap.size 1 (some ⟨g, 0, none⟩) n (m.map byteV) :=
  ⟨by simp [hn], fun _ => ⟨g, 0, rfl, h.lt, fun j u hu => by rw [Nat.zero_add, h.cell j, ← hu, ← hcs]; simp⟩⟩

end Go.Proofs.Ytjbmlhipjceeeaa.Lb
