/- The bytes of a manifest (chapter 13): plain words and laws. -/
import Derived.Test.YtjbmlhipjceeeaaGreatMfG
import Derived.Test.YtjbmlhipjceeeaaGreatMNu
import Derived.Test.YtjbmlhipjceeeaaGreatMCr
import Derived.Test.YtjbmlhipjceeeaaGreatMLab
namespace Go.Proofs.YtjbmlhipjceeeaaGreat.Mf
set_option linter.unusedVariables false
set_option linter.unusedSimpArgs false
open Go.RowKit Go.Proofs.YtjbmlhipjceeeaaGreat

theorem hlt {w : World} {k : Nat} {o : Obj} (h : w.heap[k]? = some o) : k < w.heap.size := by
  rcases Nat.lt_or_ge k w.heap.size with hlt | hge
  · exact hlt
  · rw [Array.getElem?_eq_none hge] at h; cases h

/-! ### what is written -/
def us (l : List Int) : List UInt8 := l.flatMap fun n => Nu.putU n.toNat
def head5 : List UInt8 := [77, 65, 78, 73, 1]
def encE (x : En) : List UInt8 := us [(x.key.size : Int)] ++ (x.key.data.toList ++ (us [x.window, (x.part.size : Int)] ++ (x.part.data.toList ++ us [x.first, x.last, x.rows, x.size, x.sum, x.born])))
def encK (x : Mk) : List UInt8 := us [x.maker, x.seq]
def encO (x : Ow) : List UInt8 := us [x.agent, x.life, x.count]
def encT (m : Md) : List UInt8 := head5 ++ (us [m.gen, m.cut, m.fence, (m.E.length : Int)] ++ (m.E.flatMap encE ++ (us [(m.M.length : Int)] ++ (m.M.flatMap encK ++ (us [(m.O.length : Int)] ++ m.O.flatMap encO)))))
def encB (m : Md) : List UInt8 := Cr.cseal (encT m)
theorem us_nil : us [] = [] := rfl
theorem us_cons (n : Int) (l : List Int) : us (n :: l) = Nu.putU n.toNat ++ us l := rfl
theorem us_app (l m : List Int) : us (l ++ m) = us l ++ us m := List.flatMap_append
theorem us_len (l : List Int) (h : ∀ n ∈ l, n ≤ 18446744073709551615) : (us l).length ≤ 10 * l.length := by
  induction l with
  | nil => simp [us]
  | cons n l ih =>
    have h1 := Nu.putU_len10 (n := n.toNat) (by have := h n List.mem_cons_self; omega)
    have h2 := ih fun m hm => h m (List.mem_cons_of_mem _ hm)
    rw [us_cons, List.length_append, List.length_cons]; omega

/-! ### what is read -/
def most : Int := 1099511627775
def rdE (l : List UInt8) (k e : Nat) : En × Nat × Nat :=
  match Nu.curText l k e 40 with
  | (a, k, e) => match Nu.curNum l k e most with
  | (n1, k, e) => match Nu.curText l k e 1024 with
  | (b, k, e) => match Nu.curNum l k e most with
  | (n2, k, e) => match Nu.curNum l k e most with
  | (n3, k, e) => match Nu.curNum l k e most with
  | (n4, k, e) => match Nu.curNum l k e most with
  | (n5, k, e) => match Nu.curNum l k e 4294967295 with
  | (n6, k, e) => match Nu.curNum l k e most with
  | (n7, k, e) => (⟨⟨a.toArray⟩, n1, ⟨b.toArray⟩, n2, n3, n4, n5, n6, n7⟩, k, e)
def rdK (l : List UInt8) (k e : Nat) : Mk × Nat × Nat :=
  match Nu.curNum l k e most with
  | (n1, k, e) => match Nu.curNum l k e most with
  | (n2, k, e) => (⟨n1, n2⟩, k, e)
def rdO (l : List UInt8) (k e : Nat) : Ow × Nat × Nat :=
  match Nu.curNum l k e most with
  | (n1, k, e) => match Nu.curNum l k e most with
  | (n2, k, e) => match Nu.curNum l k e most with
  | (n3, k, e) => (⟨n1, n2, n3⟩, k, e)
def rdL {α : Type} (f : Nat → Nat → α × Nat × Nat) : Nat → Nat → Nat → List α × Nat × Nat
  | 0, k, e => ([], k, e)
  | n + 1, k, e => match rdL f n k e with
    | (xs, k, e) => match f k e with
      | (x, k, e) => (xs ++ [x], k, e)
def rdM (l : List UInt8) (k e : Nat) : Md × Nat × Nat :=
  match Nu.curNum l k e most with
  | (g, k, e) => match Nu.curNum l k e most with
  | (c, k, e) => match Nu.curNum l k e most with
  | (f, k, e) => match Nu.curNum l k e 256 with
  | (n, k, e) => match rdL (rdE l) n k e with
  | (E, k, e) => match Nu.curNum l k e 64 with
  | (n, k, e) => match rdL (rdK l) n k e with
  | (M, k, e) => match Nu.curNum l k e 8 with
  | (n, k, e) => match rdL (rdO l) n k e with
  | (O, k, e) => (⟨g, c, f, E, M, O⟩, k, e)
def nilM : Md := ⟨0, 0, 0, [], [], []⟩
open Classical in
/-- The manifest of an unsealed text; the error. -/
noncomputable def decT (l : List UInt8) : Md × Int :=
  match Nu.curBytes l 0 0 5 with
  | (h, k, e) => match rdM l k e with
  | (m, k, e) => if h = head5 ∧ Nu.curEnd l k e = 0 ∧ rightB m = true then (m, 0) else (nilM, 4)
noncomputable def decB (b : List UInt8) : Md × Int := if (Cr.copen b).2 ≠ 0 then (nilM, ((Cr.copen b).2 : Int)) else decT (Cr.copen b).1

/-! ### what is written is read again -/
def At (l : List UInt8) (k : Nat) (r : List UInt8) : Prop := k ≤ l.length ∧ l.drop k = r
theorem At.app {l : List UInt8} {k : Nat} {a r : List UInt8} (h : At l k (a ++ r)) : At l (k + a.length) r := by
  have hl := congrArg List.length h.2
  rw [List.length_drop, List.length_append] at hl
  refine ⟨by have := h.1; omega, ?_⟩
  rw [← List.drop_drop, h.2, List.drop_left]
theorem At.some {l : List UInt8} {k : Nat} {a r : List UInt8} (h : At l k (a ++ r)) (ha : 0 < a.length) : k < l.length := by
  have hl := congrArg List.length h.2
  rw [List.length_drop, List.length_append] at hl
  omega
theorem u_at {l : List UInt8} {k n : Nat} {r : List UInt8} (h : At l k (Nu.putU n ++ r)) (hn : n ≤ 18446744073709551615) : Nu.curU l k 0 = (n, k + (Nu.putU n).length, 0) := by
  have hlt := h.some (Nu.putU_pos n)
  unfold Nu.curU Nu.readU
  rw [if_neg (by omega), if_neg (by omega), Int.toNat_natCast, h.2, Nu.readAt_putU hn]
theorem num_at {l : List UInt8} {k : Nat} {n mo : Int} {r : List UInt8} (h : At l k (us [n] ++ r)) (h0 : 0 ≤ n) (hm : n ≤ mo) (hmo : mo ≤ 18446744073709551615) :
    ∃ k', Nu.curNum l k 0 mo = (n.toNat, k', 0) ∧ At l k' r ∧ ((n.toNat : Nat) : Int) = n := by
  rw [us_cons, us_nil, List.append_nil] at h
  refine ⟨_, ?_, h.app, by omega⟩
  rw [Nu.curNum_3 (u_at h (by omega)) (by omega)]
theorem text_at {l : List UInt8} {k : Nat} {s : ByteArray} {mo : Int} {r : List UInt8} (h : At l k (us [(s.size : Int)] ++ (s.data.toList ++ r))) (hm : (s.size : Int) ≤ mo) (hmo : mo ≤ 18446744073709551615) :
    ∃ k', Nu.curText l k 0 mo = (s.data.toList, k', 0) ∧ At l k' r := by
  rw [us_cons, us_nil, List.append_nil, Int.toNat_natCast] at h
  have h2 := h.app
  have hs : s.data.toList.length = s.size := rfl
  have hl := congrArg List.length h2.2
  rw [List.length_drop, List.length_append] at hl
  refine ⟨_, ?_, h2.app⟩
  rw [Nu.curText_4 (u_at h (by omega)) (by omega) (by omega), h2.2, ← hs, List.take_left]
theorem us_split (n : Int) (l : List Int) (r : List UInt8) (h : l ≠ []) : us (n :: l) ++ r = us [n] ++ (us l ++ r) := by
  rw [us_cons, us_cons, us_nil, List.append_nil, List.append_assoc]
structure En.In (x : En) : Prop where
  key : x.key.size ≤ 40
  part : x.part.size ≤ 1024
  window : 0 ≤ x.window ∧ x.window ≤ most
  first : 0 ≤ x.first ∧ x.first ≤ most
  last : 0 ≤ x.last ∧ x.last ≤ most
  rows : 0 ≤ x.rows ∧ x.rows ≤ most
  size : 0 ≤ x.size ∧ x.size ≤ most
  sum : 0 ≤ x.sum ∧ x.sum ≤ 4294967295
  born : 0 ≤ x.born ∧ x.born ≤ most
theorem rdE_at {l : List UInt8} {k : Nat} {x : En} {r : List UInt8} (h : At l k (encE x ++ r)) (hx : x.In) : ∃ k', rdE l k 0 = (x, k', 0) ∧ At l k' r := by
  have hmo : most ≤ 18446744073709551615 := by decide
  unfold encE at h
  rw [List.append_assoc, List.append_assoc, List.append_assoc, List.append_assoc] at h
  obtain ⟨k1, e1, h⟩ := text_at h (mo := 40) (by have := hx.key; omega) (by omega)
  rw [us_split _ _ _ (by simp)] at h
  obtain ⟨k2, e2, h, i2⟩ := num_at h hx.window.1 hx.window.2 hmo
  obtain ⟨k3, e3, h⟩ := text_at h (mo := 1024) (by have := hx.part; omega) (by omega)
  rw [us_split _ _ _ (by simp)] at h
  obtain ⟨k4, e4, h, i4⟩ := num_at h hx.first.1 hx.first.2 hmo
  rw [us_split _ _ _ (by simp)] at h
  obtain ⟨k5, e5, h, i5⟩ := num_at h hx.last.1 hx.last.2 hmo
  rw [us_split _ _ _ (by simp)] at h
  obtain ⟨k6, e6, h, i6⟩ := num_at h hx.rows.1 hx.rows.2 hmo
  rw [us_split _ _ _ (by simp)] at h
  obtain ⟨k7, e7, h, i7⟩ := num_at h hx.size.1 hx.size.2 hmo
  rw [us_split _ _ _ (by simp)] at h
  obtain ⟨k8, e8, h, i8⟩ := num_at h hx.sum.1 hx.sum.2 (by omega)
  obtain ⟨k9, e9, h, i9⟩ := num_at h hx.born.1 hx.born.2 hmo
  refine ⟨k9, ?_, h⟩
  simp only [rdE, e1, e2, e3, e4, e5, e6, e7, e8, e9, i2, i4, i5, i6, i7, i8, i9]
theorem rdK_at {l : List UInt8} {k : Nat} {x : Mk} {r : List UInt8} (h : At l k (encK x ++ r)) (h1 : 0 ≤ x.maker ∧ x.maker ≤ most) (h2 : 0 ≤ x.seq ∧ x.seq ≤ most) : ∃ k', rdK l k 0 = (x, k', 0) ∧ At l k' r := by
  have hmo : most ≤ 18446744073709551615 := by decide
  unfold encK at h
  rw [us_split _ _ _ (by simp)] at h
  obtain ⟨k1, e1, h, i1⟩ := num_at h h1.1 h1.2 hmo
  obtain ⟨k2, e2, h, i2⟩ := num_at h h2.1 h2.2 hmo
  exact ⟨k2, by simp only [rdK, e1, e2, i1, i2], h⟩
theorem rdO_at {l : List UInt8} {k : Nat} {x : Ow} {r : List UInt8} (h : At l k (encO x ++ r)) (h1 : 0 ≤ x.agent ∧ x.agent ≤ most) (h2 : 0 ≤ x.life ∧ x.life ≤ most) (h3 : 0 ≤ x.count ∧ x.count ≤ most) : ∃ k', rdO l k 0 = (x, k', 0) ∧ At l k' r := by
  have hmo : most ≤ 18446744073709551615 := by decide
  unfold encO at h
  rw [us_split _ _ _ (by simp)] at h
  obtain ⟨k1, e1, h, i1⟩ := num_at h h1.1 h1.2 hmo
  rw [us_split _ _ _ (by simp)] at h
  obtain ⟨k2, e2, h, i2⟩ := num_at h h2.1 h2.2 hmo
  obtain ⟨k3, e3, h, i3⟩ := num_at h h3.1 h3.2 hmo
  exact ⟨k3, by simp only [rdO, e1, e2, e3, i1, i2, i3], h⟩
theorem rdL_cons {α : Type} (f : Nat → Nat → α × Nat × Nat) {k e k1 e1 : Nat} {x : α} (h : f k e = (x, k1, e1)) : ∀ n, rdL f (n + 1) k e = (x :: (rdL f n k1 e1).1, (rdL f n k1 e1).2)
  | 0 => by simp only [rdL, h]; rfl
  | n + 1 => by
    rw [rdL, rdL_cons f h n]
    rw [rdL]
    rfl
theorem rdL_at {α : Type} {l : List UInt8} {f : Nat → Nat → α × Nat × Nat} {enc : α → List UInt8} : ∀ {xs : List α} (_ : ∀ x ∈ xs, ∀ k r, At l k (enc x ++ r) → ∃ k', f k 0 = (x, k', 0) ∧ At l k' r) {k : Nat} {r : List UInt8}, At l k (xs.flatMap enc ++ r) → ∃ k', rdL f xs.length k 0 = (xs, k', 0) ∧ At l k' r
  | [], _, k, r, h => ⟨k, rfl, h⟩
  | x :: xs, hf, k, r, h => by
    rw [List.flatMap_cons, List.append_assoc] at h
    obtain ⟨k1, e1, h1⟩ := hf x List.mem_cons_self k _ h
    obtain ⟨k2, e2, h2⟩ := rdL_at (fun y hy => hf y (List.mem_cons_of_mem _ hy)) h1
    exact ⟨k2, by rw [List.length_cons, rdL_cons f e1, e2], h2⟩
/-- What of a manifest the bytes can hold. -/
structure Md.In (m : Md) : Prop where
  gen : 0 ≤ m.gen ∧ m.gen ≤ most
  cut : 0 ≤ m.cut ∧ m.cut ≤ most
  fence : 0 ≤ m.fence ∧ m.fence ≤ most
  le : m.E.length ≤ 256
  lm : m.M.length ≤ 64
  lo : m.O.length ≤ 8
  E : ∀ x ∈ m.E, x.In
  M : ∀ x ∈ m.M, (0 ≤ x.maker ∧ x.maker ≤ most) ∧ (0 ≤ x.seq ∧ x.seq ≤ most)
  O : ∀ x ∈ m.O, (0 ≤ x.agent ∧ x.agent ≤ most) ∧ (0 ≤ x.life ∧ x.life ≤ most) ∧ (0 ≤ x.count ∧ x.count ≤ most)
theorem rdM_at {l : List UInt8} {k : Nat} {m : Md} (h : At l k (us [m.gen, m.cut, m.fence, (m.E.length : Int)] ++ (m.E.flatMap encE ++ (us [(m.M.length : Int)] ++ (m.M.flatMap encK ++ (us [(m.O.length : Int)] ++ m.O.flatMap encO)))))) (hm : m.In) : rdM l k 0 = (m, l.length, 0) := by
  have hmo : most ≤ 18446744073709551615 := by decide
  rw [us_split _ _ _ (by simp)] at h
  obtain ⟨k1, e1, h, i1⟩ := num_at h hm.gen.1 hm.gen.2 hmo
  rw [us_split _ _ _ (by simp)] at h
  obtain ⟨k2, e2, h, i2⟩ := num_at h hm.cut.1 hm.cut.2 hmo
  rw [us_split _ _ _ (by simp)] at h
  obtain ⟨k3, e3, h, i3⟩ := num_at h hm.fence.1 hm.fence.2 hmo
  obtain ⟨k4, e4, h, _⟩ := num_at (mo := 256) h (by omega) (by have := hm.le; omega) (by omega)
  obtain ⟨k5, e5, h⟩ := rdL_at (f := rdE l) (fun x hx k r h => rdE_at h (hm.E x hx)) h
  obtain ⟨k6, e6, h, _⟩ := num_at (mo := 64) h (by omega) (by have := hm.lm; omega) (by omega)
  obtain ⟨k7, e7, h⟩ := rdL_at (f := rdK l) (fun x hx k r h => rdK_at h (hm.M x hx).1 (hm.M x hx).2) h
  obtain ⟨k8, e8, h, _⟩ := num_at (mo := 8) h (by omega) (by have := hm.lo; omega) (by omega)
  rw [← List.append_nil (m.O.flatMap encO)] at h
  obtain ⟨k9, e9, h⟩ := rdL_at (f := rdO l) (fun x hx k r h => rdO_at h (hm.O x hx).1 (hm.O x hx).2.1 (hm.O x hx).2.2) h
  have hk : k9 = l.length := by
    have := congrArg List.length h.2
    rw [List.length_drop] at this
    have h1 := h.1
    simp at this
    omega
  subst hk
  simp only [rdM, e1, e2, e3, e4, Int.toNat_natCast, e5, e6, e7, e8, e9, i1, i2, i3]
theorem decT_encT {m : Md} (hm : m.In) (hr : rightB m = true) : decT (encT m) = (m, 0) := by
  have h : At (encT m) 5 (us [m.gen, m.cut, m.fence, (m.E.length : Int)] ++ (m.E.flatMap encE ++ (us [(m.M.length : Int)] ++ (m.M.flatMap encK ++ (us [(m.O.length : Int)] ++ m.O.flatMap encO))))) := by
    refine ⟨by simp [encT, head5], rfl⟩
  have hb : Nu.curBytes (encT m) 0 0 5 = (head5, 5, 0) := by
    have h1 := h.1
    unfold Nu.curBytes
    rw [if_neg (by omega), if_neg (by simp only [Int.natCast_zero]; omega)]
    rfl
  unfold decT
  rw [hb]
  dsimp only
  rw [rdM_at h hm]
  dsimp only
  rw [if_pos ⟨rfl, Nu.curEnd_2 (by omega), hr⟩]
theorem copen_cseal (l : List UInt8) : Cr.copen (Cr.cseal l) = (l, 0) := by
  have e : (Cr.cseal l).length - 4 = l.length := by simp [Cr.cseal, Cr.four]
  have e4 : 4 ≤ (Cr.cseal l).length := by simp [Cr.cseal, Cr.four]
  have et : (Cr.cseal l).take l.length = l := by unfold Cr.cseal; rw [List.take_left]
  rw [Cr.copen_good e4 (by rw [e, et]; unfold Cr.cseal; rw [List.drop_left]), e, et]
theorem decB_encB {m : Md} (hm : m.In) (hr : rightB m = true) : decB (encB m) = (m, 0) := by
  unfold decB encB
  rw [copen_cseal, if_neg (by simp), decT_encT hm hr]
theorem encB_inj {m o : Md} (hm : m.In) (hr : rightB m = true) (ho : o.In) (hro : rightB o = true) (h : encB m = encB o) : m = o := by
  have h1 := decB_encB hm hr
  rw [h, decB_encB ho hro] at h1
  exact (congrArg Prod.fst h1).symm
end Go.Proofs.YtjbmlhipjceeeaaGreat.Mf
