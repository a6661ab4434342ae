/- An edit; keys in a map: as many as there are iff none comes twice (chapter 13). -/
import Derived.Test.YtjbmlhipjceeeaaGreatProg
import Derived.Test.YtjbmlhipjceeeaaGreatMfG
namespace Go.Proofs.YtjbmlhipjceeeaaGreat.Mf
set_option linter.unusedVariables false
set_option linter.unusedSimpArgs false
open Go.RowKit Go.Proofs.YtjbmlhipjceeeaaGreat

/-- An edit; where its lists lie. -/
structure Ed where
  add : List En
  drop : List ByteArray
  marks : List Mk
  cut : Int
  fence : Int
  by_ : Ow
deriving Inhabited
structure Pd where
  AA : Option Addr
  cA : Nat
  AD : Option Addr
  cD : Nat
  AM : Option Addr
  cM : Nat
abbrev edV (d : Ed) (p : Pd) : Value := .agg #[.slice p.AA d.add.length p.cA, .slice p.AD d.drop.length p.cD, .slice p.AM d.marks.length p.cM, .int .i64 d.cut, .int .i64 d.fence, .int .i64 d.by_.agent, .int .i64 d.by_.life, .int .i64 d.by_.count]
structure Edi (w : World) (B : Nat) (d : Ed) (p : Pd) : Prop where
  ra : Reads w B 9 p.AA d.add.length (d.add.flatMap En.cs)
  rd : Reads w B 1 p.AD d.drop.length (d.drop.map Value.string)
  rm : Reads w B 2 p.AM d.marks.length (d.marks.flatMap Mk.cs)
  la : d.add.length ≤ 17592186044416
  ld : d.drop.length ≤ 17592186044416
  lm : d.marks.length ≤ 17592186044416
  ca : d.add.length ≤ p.cA
  cd : d.drop.length ≤ p.cD
  cm : d.marks.length ≤ p.cM
  ok : ∀ x ∈ d.add, x.Ok
  okd : ∀ k ∈ d.drop, k.size ≤ 140737488351232
theorem Edi.below {w w' : World} {B : Nat} {d : Ed} {p : Pd} (h : Edi w B d p) (hb : Below B w w') : Edi w' B d p := ⟨h.ra.below hb, h.rd.below hb, h.rm.below hb, h.la, h.ld, h.lm, h.ca, h.cd, h.cm, h.ok, h.okd⟩
theorem Edi.more {w : World} {B B' : Nat} {d : Ed} {p : Pd} (h : Edi w B d p) (hB : B ≤ B') : Edi w B' d p := ⟨h.ra.more hB, h.rd.more hB, h.rm.more hB, h.la, h.ld, h.lm, h.ca, h.cd, h.cm, h.ok, h.okd⟩
def keys (l : List En) : List ByteArray := l.map (·.key)
theorem keys_len (l : List En) : (keys l).length = l.length := List.length_map _
theorem keys_gt {l : List En} {i : Nat} (h : i < l.length) : gt (keys l) i = (gt l i).key := by
  rw [← gt_eq (show i < (keys l).length by rw [keys_len]; exact h), ← gt_eq h]
  simp [keys]
theorem keys_take (l : List En) (k : Nat) : keys (l.take k) = (keys l).take k := by simp [keys, List.map_take]
noncomputable def editB (d : Ed) : Bool := d.add.all enB && d.drop.all keyB && decide (keys d.add).Nodup && decide d.drop.Nodup && risB mkB ltP d.marks && numB d.cut 0 && numB d.fence 0 && owB d.by_

/-! ### keys in a map -/
section
variable {β : Type}
theorem mdel_len1 {x : ByteArray} : ∀ {l : List (ByteArray × β)}, l.Pairwise (fun p q => p.1 ≠ q.1) → (∃ p ∈ l, p.1 = x) → (mdel l x).length + 1 = l.length
  | [], _, h => by obtain ⟨p, hp, _⟩ := h; cases hp
  | q :: r, hn, h => by
    rw [List.pairwise_cons] at hn
    unfold mdel
    rw [List.filter_cons]
    by_cases e : q.1 = x
    · rw [if_neg (by simpa using e)]
      have : r.filter (fun p => decide (p.1 ≠ x)) = r := List.filter_eq_self.2 fun p hp => by
        have := hn.1 p hp
        rw [e] at this
        simpa using fun h => this h.symm
      rw [this]; rfl
    · rw [if_pos (by simpa using e), List.length_cons, List.length_cons]
      have := mdel_len1 hn.2 (x := x) (by
        obtain ⟨p, hp, hpx⟩ := h
        rcases List.mem_cons.1 hp with rfl | hp
        · exact absurd hpx e
        · exact ⟨p, hp, hpx⟩)
      unfold mdel at this
      omega
theorem mdel_none {x : ByteArray} {l : List (ByteArray × β)} (h : ¬ ∃ p ∈ l, p.1 = x) : mdel l x = l := List.filter_eq_self.2 fun p hp => by simpa using fun e => h ⟨p, hp, e⟩
theorem mput_lenp (lt : ByteArray → ByteArray → Bool) (l : List (ByteArray × β)) (x : ByteArray) (v : β) : (mput lt l x v).length = (mdel l x).length + 1 := (mins_perm (mdel l x)).length_eq
theorem mput_ne {lt : ByteArray → ByteArray → Bool} {l : List (ByteArray × β)} {x : ByteArray} {v : β} (h : l.Pairwise fun p q => p.1 ≠ q.1) : (mput lt l x v).Pairwise fun p q => p.1 ≠ q.1 := by
  refine (mins_perm (mdel l x)).symm.pairwise ?_ (fun h => h.symm)
  rw [List.pairwise_cons]
  exact ⟨fun q hq => (mdel_ne q hq).symm, h.filter _⟩
/-- A map's keys are ks. -/
structure Ks (M : List (ByteArray × β)) (ks : List ByteArray) : Prop where
  nd : M.Pairwise fun p q => p.1 ≠ q.1
  mem : ∀ x, (∃ p ∈ M, p.1 = x) ↔ x ∈ ks
  le : M.length ≤ ks.length
  eq : M.length = ks.length ↔ ks.Nodup
theorem Ks.nil : Ks ([] : List (ByteArray × β)) [] := ⟨List.Pairwise.nil, fun x => by simp, Nat.le_refl _, by simp⟩
theorem Ks.step {lt : ByteArray → ByteArray → Bool} {M : List (ByteArray × β)} {ks : List ByteArray} (h : Ks M ks) (x : ByteArray) (v : β) : Ks (mput lt M x v) (ks ++ [x]) := by
  refine ⟨mput_ne h.nd, fun y => ?_, ?_, ?_⟩
  · rw [List.mem_append, List.mem_singleton, ← h.mem]
    constructor
    · rintro ⟨p, hp, rfl⟩
      rcases mput_mem.1 hp with rfl | ⟨hp, _⟩
      · exact .inr rfl
      · exact .inl ⟨p, hp, rfl⟩
    · rintro (⟨p, hp, rfl⟩ | rfl)
      · by_cases e : p.1 = x
        · exact ⟨(x, v), mput_mem.2 (.inl rfl), e.symm⟩
        · exact ⟨p, mput_mem.2 (.inr ⟨hp, e⟩), rfl⟩
      · exact ⟨(y, v), mput_mem.2 (.inl rfl), rfl⟩
  · rw [mput_lenp, List.length_append, List.length_singleton]
    have : (mdel M x).length ≤ M.length := List.length_filter_le _ _
    have := h.le
    omega
  · rw [mput_lenp, List.length_append, List.length_singleton, List.nodup_append]
    have h1 := h.le
    by_cases hx : ∃ p ∈ M, p.1 = x
    · have h2 := mdel_len1 h.nd hx
      constructor
      · intro e; omega
      · intro e
        exact absurd rfl (e.2.2 x ((h.mem x).1 hx) x (by simp))
    · rw [mdel_none hx]
      have h2 : x ∉ ks := fun hm => hx ((h.mem x).2 hm)
      constructor
      · intro e
        exact ⟨h.eq.1 (by omega), by simp, fun a ha b hb => by rw [List.mem_singleton] at hb; rintro rfl; exact h2 (hb ▸ ha)⟩
      · intro e
        have := h.eq.2 e.1
        omega
end
end Go.Proofs.YtjbmlhipjceeeaaGreat.Mf
