/- Reading a manifest (chapter 13): what is read fits; frames. -/
import Derived.Test.YtjbmlhipjceeeaaGreatMfCo
import Derived.Test.YtjbmlhipjceeeaaGreatMfS
namespace Go.Proofs.YtjbmlhipjceeeaaGreat.Mf
set_option linter.unusedVariables false
set_option linter.unusedSimpArgs false
open Go.RowKit Go.Proofs.YtjbmlhipjceeeaaGreat

theorem num_le {l : List UInt8} {k e n k' e' : Nat} {mo : Int} (h : Nu.curNum l k e mo = (n, k', e')) (h0 : 0 ≤ mo) : (n : Int) ≤ mo := by
  unfold Nu.curNum at h
  split at h
  · injection h with h _; omega
  · split at h
    · injection h with h _; omega
    · split at h
      · injection h with h _; omega
      · rename_i h3
        rw [h] at h3
        have : n = ((n, k', e') : Nat × Nat × Nat).1 := rfl
        omega
theorem text_le {l : List UInt8} {k e k' e' : Nat} {s : List UInt8} {mo : Int} (h : Nu.curText l k e mo = (s, k', e')) (h0 : 0 ≤ mo) : (s.length : Int) ≤ mo := by
  unfold Nu.curText at h
  split at h
  · injection h with h _; subst h; simpa using h0
  · split at h
    · injection h with h _; subst h; simpa using h0
    · split at h
      · injection h with h _; subst h; simpa using h0
      · split at h
        · injection h with h _; subst h; simpa using h0
        · rename_i h3 _
          injection h with h _
          subst h
          rw [List.length_take]
          omega
theorem rdL_len {α : Type} (f : Nat → Nat → α × Nat × Nat) : ∀ n k e, (rdL f n k e).1.length = n
  | 0, _, _ => rfl
  | n + 1, k, e => by
    have ih := rdL_len f n k e
    rw [rdL]
    rcases h : rdL f n k e with ⟨xs, k1, e1⟩
    rw [h] at ih
    rcases h2 : f k1 e1 with ⟨x, k2, e2⟩
    simp only [List.length_append, List.length_cons, List.length_nil] at *
    omega
theorem rdL_s {α : Type} {f : Nat → Nat → α × Nat × Nat} {n k e k1 e1 k2 e2 : Nat} {xs : List α} {x : α} (h : rdL f n k e = (xs, k1, e1)) (h2 : f k1 e1 = (x, k2, e2)) : rdL f (n + 1) k e = (xs ++ [x], k2, e2) := by
  rw [rdL, h]; dsimp only; rw [h2]
theorem rdL_all {α : Type} {f : Nat → Nat → α × Nat × Nat} {P : α → Prop} (hf : ∀ k e, P (f k e).1) : ∀ n k e, ∀ x ∈ (rdL f n k e).1, P x
  | 0, _, _ => fun x hx => by cases hx
  | n + 1, k, e => by
    have ih := rdL_all hf n k e
    intro x hx
    rw [rdL] at hx
    rcases h : rdL f n k e with ⟨xs, k1, e1⟩
    rw [h] at hx ih
    have h3 := hf k1 e1
    rcases h2 : f k1 e1 with ⟨y, k2, e2⟩
    rw [h2] at h3
    simp only [h2, List.mem_append, List.mem_singleton] at hx
    rcases hx with hx | rfl
    · exact ih x hx
    · exact h3
/-- What a read entry is. -/
def Rd (x : En) : Prop := x.Ok ∧ x.key.size ≤ 40 ∧ x.part.size ≤ 1024
theorem rdE_ok (l : List UInt8) (k e : Nat) : Rd (rdE l k e).1 := by
  unfold rdE
  rcases h1 : Nu.curText l k e 40 with ⟨a, k1, e1⟩
  dsimp only
  rcases h2 : Nu.curNum l k1 e1 most with ⟨n1, k2, e2⟩
  dsimp only
  rcases h3 : Nu.curText l k2 e2 1024 with ⟨b, k3, e3⟩
  dsimp only
  rcases h4 : Nu.curNum l k3 e3 most with ⟨n2, k4, e4⟩
  dsimp only
  rcases h5 : Nu.curNum l k4 e4 most with ⟨n3, k5, e5⟩
  dsimp only
  rcases h6 : Nu.curNum l k5 e5 most with ⟨n4, k6, e6⟩
  dsimp only
  rcases h7 : Nu.curNum l k6 e6 most with ⟨n5, k7, e7⟩
  dsimp only
  rcases h8 : Nu.curNum l k7 e7 4294967295 with ⟨n6, k8, e8⟩
  dsimp only
  rcases h9 : Nu.curNum l k8 e8 most with ⟨n7, k9, e9⟩
  dsimp only
  have t1 := text_le h1 (by omega)
  have t3 := text_le h3 (by omega)
  have t8 := num_le h8 (by omega)
  have s1 : (⟨a.toArray⟩ : ByteArray).size = a.length := by simp [ByteArray.size]
  have s3 : (⟨b.toArray⟩ : ByteArray).size = b.length := by simp [ByteArray.size]
  exact ⟨⟨by rw [s1]; omega, by rw [s3]; omega, Int.natCast_nonneg _, t8⟩, by rw [s1]; omega, by rw [s3]; omega⟩

noncomputable def decM (hd : List UInt8) (t : List UInt8) (k e : Nat) (m : Md) : Md × Int := open Classical in if hd = head5 ∧ Nu.curEnd t k e = 0 ∧ rightB m = true then (m, 0) else (nilM, 4)
theorem decT_eq {t hd : List UInt8} {k e k' e' : Nat} {m : Md} (h1 : Nu.curBytes t 0 0 5 = (hd, k, e)) (h2 : rdM t k e = (m, k', e')) : decT t = decM hd t k' e' m := by
  unfold decT decM; rw [h1]; dsimp only; rw [h2]
theorem decT_bad {t hd : List UInt8} {k e : Nat} (h1 : Nu.curBytes t 0 0 5 = (hd, k, e)) (h2 : hd ≠ head5) : decT t = (nilM, 4) := by
  unfold decT; rw [h1]; dsimp only
  rcases h3 : rdM t k e with ⟨m, k', e'⟩
  dsimp only
  rw [if_neg (fun h => h2 h.1)]
theorem decB_err {b t : List UInt8} {e : Nat} (h : Cr.copen b = (t, e)) (he : e ≠ 0) : decB b = (nilM, (e : Int)) := by unfold decB; rw [h, if_pos he]
theorem decB_ok {b t : List UInt8} (h : Cr.copen b = (t, 0)) : decB b = decT t := by unfold decB; rw [h, if_neg (by simp)]
theorem copen_le {b t : List UInt8} {e : Nat} (h : Cr.copen b = (t, e)) : t.length ≤ b.length := by
  unfold Cr.copen at h
  split at h
  · injection h with h _; subst h; simp
  · split at h
    · injection h with h _; subst h; rw [List.length_take]; omega
    · injection h with h _; subst h; simp

theorem rdM_good (l : List UInt8) (k e : Nat) : (rdM l k e).1.E.length ≤ 256 ∧ (rdM l k e).1.M.length ≤ 64 ∧ (rdM l k e).1.O.length ≤ 8 ∧ ∀ x ∈ (rdM l k e).1.E, Rd x := by
  unfold rdM
  rcases Nu.curNum l k e most with ⟨g, k1, e1⟩
  dsimp only
  rcases Nu.curNum l k1 e1 most with ⟨c, k2, e2⟩
  dsimp only
  rcases Nu.curNum l k2 e2 most with ⟨f, k3, e3⟩
  dsimp only
  rcases h4 : Nu.curNum l k3 e3 256 with ⟨nE, k4, e4⟩
  dsimp only
  rcases h5 : rdL (rdE l) nE k4 e4 with ⟨E, k5, e5⟩
  dsimp only
  rcases h6 : Nu.curNum l k5 e5 64 with ⟨nM, k6, e6⟩
  dsimp only
  rcases h7 : rdL (rdK l) nM k6 e6 with ⟨M, k7, e7⟩
  dsimp only
  rcases h8 : Nu.curNum l k7 e7 8 with ⟨nO, k8, e8⟩
  dsimp only
  rcases h9 : rdL (rdO l) nO k8 e8 with ⟨O, k9, e9⟩
  dsimp only
  have l5 := rdL_len (rdE l) nE k4 e4
  have l7 := rdL_len (rdK l) nM k6 e6
  have l9 := rdL_len (rdO l) nO k8 e8
  have a5 := rdL_all (P := Rd) (f := rdE l) (rdE_ok l) nE k4 e4
  rw [h5] at l5 a5
  rw [h7] at l7
  rw [h9] at l9
  dsimp only at l5 l7 l9
  have n4 := num_le h4 (by omega)
  have n6 := num_le h6 (by omega)
  have n8 := num_le h8 (by omega)
  exact ⟨by omega, by omega, by omega, a5⟩
theorem dec_good (b : List UInt8) : (decB b).1.E.length ≤ 256 ∧ (decB b).1.M.length ≤ 64 ∧ (decB b).1.O.length ≤ 8 ∧ ∀ x ∈ (decB b).1.E, x.Ok := by
  have hz : (nilM.E.length ≤ 256) ∧ (nilM.M.length ≤ 64) ∧ (nilM.O.length ≤ 8) ∧ ∀ x ∈ nilM.E, x.Ok := ⟨by decide, by decide, by decide, fun x hx => by cases hx⟩
  unfold decB
  split
  · exact hz
  · unfold decT
    rcases Nu.curBytes (Cr.copen b).1 0 0 5 with ⟨hd, k, e⟩
    dsimp only
    have hg := rdM_good (Cr.copen b).1 k e
    rcases h : rdM (Cr.copen b).1 k e with ⟨m, k', e'⟩
    rw [h] at hg
    dsimp only at hg ⊢
    split
    · exact ⟨hg.1, hg.2.1, hg.2.2.1, fun x hx => (hg.2.2.2 x hx).1⟩
    · exact hz

/-! ### frames -/
/-- From w to w' at most blocks a and b have turned, and blocks have come. -/
structure Fr2 (a b : Nat) (w w' : World) : Prop where
  os : w'.os = w.os
  tape : w'.tape = w.tape
  output : w'.output = w.output
  size : w.heap.size ≤ w'.heap.size
  block : ∀ k, k < w.heap.size → k ≠ a → k ≠ b → w'.heap[k]? = w.heap[k]?
section
variable {a b : Nat} {w w' w'' : World}
theorem Fr2.refl (a b : Nat) (w : World) : Fr2 a b w w := ⟨rfl, rfl, rfl, Nat.le_refl _, fun _ _ _ _ => rfl⟩
theorem Fr2.trans (h : Fr2 a b w w') (h' : Fr2 a b w' w'') : Fr2 a b w w'' := ⟨h'.os.trans h.os, h'.tape.trans h.tape, h'.output.trans h.output, Nat.le_trans h.size h'.size, fun k hk h1 h2 => (h'.block k (Nat.lt_of_lt_of_le hk h.size) h1 h2).trans (h.block k hk h1 h2)⟩
theorem Fr2.of_only (h : Only a w w') : Fr2 a b w w' := ⟨h.os, h.tape, h.output, h.size, fun k hk h1 _ => h.block k hk (by intro e; injection e with e; exact h1 e)⟩
theorem Fr2.of_below (h : Below w.heap.size w w') : Fr2 a b w w' := ⟨h.os, h.tape, h.output, h.size, fun k hk _ _ => h.block k hk⟩
theorem Fr2.alloc (h : Fr2 a b w w') (o : Obj) : Fr2 a b w (w'.alloc o) := h.trans (Fr2.of_below ((Below.refl _ _).alloc (Nat.le_refl _) o))
theorem Fr2.setCell (h : Fr2 a b w w') {g : Nat} (hg : g = a ∨ g = b ∨ w.heap.size ≤ g) (i : Nat) (v : Value) : Fr2 a b w (w'.setCell ⟨g, i, none⟩ v) :=
  ⟨h.os, h.tape, h.output, by have := h.size; simpa using this, fun k hk h1 h2 => (Below.heap_setCell w' ⟨g, i, none⟩ v k (fun e => by have e' : k = g := e; omega)).trans (h.block k hk h1 h2)⟩
theorem Fr2.grown (h : Fr2 a b w w') {row : Option Nat} (hg : w'.grownBy w'' row) (hr : ∀ g, row = some g → w.heap.size ≤ g) : Fr2 a b w w'' :=
  ⟨hg.os.trans h.os, hg.tape.trans h.tape, hg.output.trans h.output, Nat.le_trans h.size hg.size, fun k hk h1 h2 => (hg.block k (Nat.lt_of_lt_of_le hk h.size) (by intro e; have := hr k e.symm; omega)).trans (h.block k hk h1 h2)⟩
theorem Fr2.below (h : Fr2 a b w w') {B : Nat} (ha : B ≤ a) (hb : B ≤ b) (hs : B ≤ w.heap.size) : Below B w w' := ⟨h.os, h.tape, h.output, h.size, fun k hk => h.block k (by omega) (by omega) (by omega)⟩
theorem Fr2.blk {g : Nat} {t : TypeId} {cs : Array Value} (h : Fr2 a b w w') (hg : Blk w g t cs) (h1 : g ≠ a) (h2 : g ≠ b) : Blk w' g t cs := (h.block g hg.lt h1 h2).trans hg
theorem Fr2.own {base : Nat} {e : TypeId} {size n : Nat} {v : Value} {xs : List Value} (h : Fr2 a b w w') (ho : w.ownsRow base e size v n xs) (h1 : a < base) (h2 : b < base) : w'.ownsRow base e size v n xs := by
  refine ⟨ho.1, ?_⟩
  rcases ho.2 with h3 | ⟨g, cap, cur, hv, hg, hh, rest⟩
  · exact .inl h3
  · exact .inr ⟨g, cap, cur, hv, hg, (h.block g (hlt hh) (by omega) (by omega)).trans hh, rest⟩
end

theorem Fr2.own2 {a b : Nat} {w w' : World} {base : Nat} {e : TypeId} {size n : Nat} {v : Value} {xs : List Value} (h : Fr2 a b w w') (ho : w.ownsRow base e size v n xs) (h1 : a < base) (h2 : w.heap.size ≤ b) : w'.ownsRow base e size v n xs := by
  refine ⟨ho.1, ?_⟩
  rcases ho.2 with h3 | ⟨g, cap, cur, hv, hg, hh, rest⟩
  · exact .inl h3
  · have := hlt hh
    exact .inr ⟨g, cap, cur, hv, hg, (h.block g (hlt hh) (by omega) (by omega)).trans hh, rest⟩
theorem ecs1' (x : En) : ∀ u ∈ x.cs, u.oneCell' = true := fun u hu => ecs_one [x] u (by simpa using hu)
theorem mcs1' (x : Mk) : ∀ u ∈ x.cs, u.oneCell' = true := fun u hu => mcs_one [x] u (by simpa using hu)
theorem ocs1' (x : Ow) : ∀ u ∈ x.cs, u.oneCell' = true := fun u hu => ocs_one [x] u (by simpa using hu)

/-- A cursor in block gc and a variable in block gx; but for these nothing that was there has turned. -/
structure Dx (t T : TypeId) (w0 : World) (gc gB gx : Nat) (l : List UInt8) (W : World) (k e : Nat) (vals : Array Value) : Prop where
  cur : Nu.Cur t W gc gB l k e
  blk : Blk W gx T vals
  fr : Fr2 gc gx w0 W
section
variable {t T : TypeId} {w0 W W' : World} {gc gB gx : Nat} {l : List UInt8} {k e k' e' : Nat} {vals : Array Value}
theorem Dx.call (h : Dx t T w0 gc gB gx l W k e vals) (hc : Nu.Cur t W' gc gB l k' e') (ho : Only gc W W') (hne : gx ≠ gc) : Dx t T w0 gc gB gx l W' k' e' vals :=
  ⟨hc, ho.blk h.blk hne, h.fr.trans (Fr2.of_only ho)⟩
theorem Dx.set (h : Dx t T w0 gc gB gx l W k e vals) (hne : gx ≠ gc) (hB : gB ≤ gx) (i : Nat) (v : Value) : Dx t T w0 gc gB gx l (W.setCell ⟨gx, i, none⟩ v) k e (vals.setIfInBounds i v) :=
  ⟨h.cur.far ((Only.refl gx W).setCell (.inl rfl) v) (Ne.symm hne) hB, h.blk.set_ i v, h.fr.setCell (.inr (.inl rfl)) i v⟩
theorem Dx.below (h : Dx t T w0 gc gB gx l W k e vals) (hb : Below W.heap.size W W') : Dx t T w0 gc gB gx l W' k e vals :=
  ⟨h.cur.below hb, h.blk.below hb h.blk.lt, h.fr.trans (Fr2.of_below hb)⟩
end
theorem Fr2.any {a b b' : Nat} {w w' : World} (h : Fr2 a b w w') (hb : w.heap.size ≤ b) : Fr2 a b' w w' := ⟨h.os, h.tape, h.output, h.size, fun k hk h1 _ => h.block k hk h1 (by omega)⟩
theorem cur_low {t : TypeId} {w w' : World} {gc gB B : Nat} {l : List UInt8} {k e : Nat} (h : Nu.Cur t w gc gB l k e) (hb : Below B w w') (hB : gc < B) : Nu.Cur t w' gc gB l k e := by
  have hbd := h.bd
  obtain ⟨A, c, hbk, hc, hm, ⟨hby, hBg⟩, hk⟩ := h
  exact ⟨A, c, hbk.below hb hB, hc, hm, ⟨hby.below (hb.mono (by omega)), hBg⟩, hk⟩
theorem own_keep {w w' : World} {base B n size : Nat} {e : TypeId} {v : Value} {xs : List Value} {row : Option Nat} (h : w.ownsRow base e size v n xs) (hg : w.grownBy w' row) (hv : ∀ g, v.ownBlock = some g → g < B) (hr : ∀ g, row = some g → B ≤ g) : w'.ownsRow base e size v n xs := by
  refine h.kept hg ?_
  rcases hw : v.ownBlock with _ | g
  · exact .inl rfl
  · right
    intro e
    have h1 := hv g hw
    have h2 := hr g e.symm
    omega
/-- A row of the call's own that stands below block B. -/
def KeptRow (base B : Nat) (e : TypeId) (size n : Nat) (v : Value) (xs : List Value) (W : World) : Prop := W.ownsRow base e size v n xs ∧ ∀ g, v.ownBlock = some g → g < B
section
variable {base B size n : Nat} {e : TypeId} {v : Value} {xs : List Value} {W W' : World}
theorem KeptRow.of (h : W.ownsRow base e size v n xs) : KeptRow base W.heap.size e size n v xs W := ⟨h, fun g hg => (h.lt g hg).2⟩
theorem KeptRow.nil : KeptRow base B e size 0 (.slice none 0 0) [] W := ⟨World.ownsRow_nil _ _ _ _, fun g hg => by cases hg⟩
theorem KeptRow.fr (h : KeptRow base B e size n v xs W) {a b : Nat} (hf : Fr2 a b W W') (h1 : a < base) (h2 : W.heap.size ≤ b) : KeptRow base B e size n v xs W' := ⟨hf.own2 h.1 h1 h2, h.2⟩
theorem KeptRow.grown (h : KeptRow base B e size n v xs W) {row : Option Nat} (hg : W.grownBy W' row) (hr : ∀ g, row = some g → B ≤ g) : KeptRow base B e size n v xs W' := ⟨own_keep h.1 hg h.2 hr, h.2⟩
theorem KeptRow.alloc (h : KeptRow base B e size n v xs W) (o : Obj) : KeptRow base B e size n v xs (W.alloc o) := ⟨h.1.alloc o, h.2⟩
theorem KeptRow.set (h : KeptRow base B e size n v xs W) {g : Nat} (hg : g < base) (i : Nat) (u : Value) : KeptRow base B e size n v xs (W.setCell ⟨g, i, none⟩ u) := ⟨own_only h.1 ((Only.refl g W).setCell (.inl rfl) u) hg, h.2⟩
end
theorem Mow.mk3 {w : World} {base b1 b2 b3 : Nat} {m : Md} {p : Pl} (h1 : w.ownsRow b1 42 9 (.slice p.AE m.E.length p.cE) m.E.length (m.E.flatMap En.cs)) (h2 : w.ownsRow b2 44 2 (.slice p.AM m.M.length p.cM) m.M.length (m.M.flatMap Mk.cs)) (h3 : w.ownsRow b3 29 3 (.slice p.AO m.O.length p.cO) m.O.length (m.O.flatMap Ow.cs)) (k1 : base ≤ b1) (k2 : base ≤ b2) (k3 : base ≤ b3) : Mow w base m p :=
  ⟨own_mono h1 k1, own_mono h2 k2, own_mono h3 k3⟩
theorem Mow.set6 {w : World} {base g : Nat} {m : Md} {p : Pl} (h : Mow w base m p) (hg : g < base) (v0 v1 v2 v3 v4 v5 : Value) : Mow (set6 w g v0 v1 v2 v3 v4 v5) base m p :=
  ⟨own_only h.oe (set6_only (Only.refl g w) _ _ _ _ _ _) hg, own_only h.om (set6_only (Only.refl g w) _ _ _ _ _ _) hg, own_only h.oo (set6_only (Only.refl g w) _ _ _ _ _ _) hg⟩
theorem Mow.drewN {w : World} {base : Nat} {m : Md} {p : Pl} (h : Mow w base m p) (n : Nat) : Mow (w.drewN n) base m p := ⟨own_drewN h.oe n, own_drewN h.om n, own_drewN h.oo n⟩
theorem rd_all {l : List UInt8} {n k e k' e' : Nat} {xs : List En} (h : rdL (rdE l) n k e = (xs, k', e')) : ∀ x ∈ xs, Rd x := by
  have := rdL_all (P := Rd) (f := rdE l) (rdE_ok l) n k e
  rw [h] at this
  exact this
theorem cur_new {t : TypeId} {W : World} {A : Option Addr} {c : Nat} {l : List UInt8} (h : Bytes W W.heap.size A l.length l) (hc : l.length ≤ c) (hm : c ≤ maxLen) : Nu.Cur t (W.alloc (.cells #[.slice A l.length c, .int .i64 0, .int .i64 0] t)) W.heap.size W.heap.size l 0 0 :=
  ⟨A, c, Blk.new _ _ _, hc, hm, ⟨h.below ((Below.refl _ _).alloc (Nat.le_refl _) _), Nat.le_refl _⟩, Nat.zero_le _⟩
end Go.Proofs.YtjbmlhipjceeeaaGreat.Mf
