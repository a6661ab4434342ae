/- The bytes of a manifest (chapter 13): what is written. -/
import Derived.Test.YtjbmlhipjceeeaaGreatMfG
import Derived.Test.YtjbmlhipjceeeaaGreatMNu
import Derived.Test.YtjbmlhipjceeeaaGreatMCr
namespace Go.Proofs.YtjbmlhipjceeeaaGreat.Mf
set_option linter.unusedVariables false
set_option linter.unusedSimpArgs false
open Go.RowKit Go.Proofs.YtjbmlhipjceeeaaGreat

theorem hlt {w : World} {k : Nat} {o : Obj} (h : w.heap[k]? = some o) : k < w.heap.size := by
  rcases Nat.lt_or_ge k w.heap.size with hlt | hge
  · exact hlt
  · rw [Array.getElem?_eq_none hge] at h; cases h

/-! ### what is written -/
def us (l : List Int) : List UInt8 := l.flatMap fun n => Nu.putU n.toNat
def head5 : List UInt8 := [77, 65, 78, 73, 1]
def encE (x : En) : List UInt8 := us [(x.key.size : Int)] ++ (x.key.data.toList ++ (us [x.window, (x.part.size : Int)] ++ (x.part.data.toList ++ us [x.first, x.last, x.rows, x.size, x.sum, x.born])))
def encK (x : Mk) : List UInt8 := us [x.maker, x.seq]
def encO (x : Ow) : List UInt8 := us [x.agent, x.life, x.count]
def encT (m : Md) : List UInt8 := head5 ++ (us [m.gen, m.cut, m.fence, (m.E.length : Int)] ++ (m.E.flatMap encE ++ (us [(m.M.length : Int)] ++ (m.M.flatMap encK ++ (us [(m.O.length : Int)] ++ m.O.flatMap encO)))))
def encB (m : Md) : List UInt8 := Cr.cseal (encT m)
theorem us_nil : us [] = [] := rfl
theorem us_cons (n : Int) (l : List Int) : us (n :: l) = Nu.putU n.toNat ++ us l := rfl
theorem us_app (l m : List Int) : us (l ++ m) = us l ++ us m := List.flatMap_append
theorem us_len (l : List Int) (h : ∀ n ∈ l, n ≤ 18446744073709551615) : (us l).length ≤ 10 * l.length := by
  induction l with
  | nil => simp [us]
  | cons n l ih =>
    have h1 := Nu.putU_len10 (n := n.toNat) (by have := h n List.mem_cons_self; omega)
    have h2 := ih fun m hm => h m (List.mem_cons_of_mem _ hm)
    rw [us_cons, List.length_append, List.length_cons]; omega

theorem us_split (n : Int) (l : List Int) (r : List UInt8) (h : l ≠ []) : us (n :: l) ++ r = us [n] ++ (us l ++ r) := by
  rw [us_cons, us_cons, us_nil, List.append_nil, List.append_assoc]
def most : Int := 1099511627775
structure En.In (x : En) : Prop where
  key : x.key.size ≤ 40
  part : x.part.size ≤ 1024
  window : 0 ≤ x.window ∧ x.window ≤ most
  first : 0 ≤ x.first ∧ x.first ≤ most
  last : 0 ≤ x.last ∧ x.last ≤ most
  rows : 0 ≤ x.rows ∧ x.rows ≤ most
  size : 0 ≤ x.size ∧ x.size ≤ most
  sum : 0 ≤ x.sum ∧ x.sum ≤ 4294967295
  born : 0 ≤ x.born ∧ x.born ≤ most
/-- What of a manifest the bytes can hold. -/
structure Md.In (m : Md) : Prop where
  gen : 0 ≤ m.gen ∧ m.gen ≤ most
  cut : 0 ≤ m.cut ∧ m.cut ≤ most
  fence : 0 ≤ m.fence ∧ m.fence ≤ most
  le : m.E.length ≤ 256
  lm : m.M.length ≤ 64
  lo : m.O.length ≤ 8
  E : ∀ x ∈ m.E, x.In
  M : ∀ x ∈ m.M, (0 ≤ x.maker ∧ x.maker ≤ most) ∧ (0 ≤ x.seq ∧ x.seq ≤ most)
  O : ∀ x ∈ m.O, (0 ≤ x.agent ∧ x.agent ≤ most) ∧ (0 ≤ x.life ∧ x.life ≤ most) ∧ (0 ≤ x.count ∧ x.count ≤ most)
end Go.Proofs.YtjbmlhipjceeeaaGreat.Mf
