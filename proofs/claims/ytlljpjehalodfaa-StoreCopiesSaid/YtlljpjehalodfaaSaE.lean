/- A store under a statement's acts (chapter 14). -/
import Derived.Test.YtlljpjehalodfaaProg
import Derived.Test.YtlljpjehalodfaaSaD
namespace Go.Proofs.Ytlljpjehalodfaa
open Go.RowKit
namespace St

/-- A store that a statement made in world w, after n calls. -/
structure Liv (w wr : World) (g : Nat) (L : LS) (n : Nat) : Prop where
  at_ : At wr L
  inv : PInv L.pure n
  gs : L.gs = g
  high : ∀ i, L.foot i → w.heap.size ≤ i
  below : Below w.heap.size w wr
section
variable {w wr wx : World} {g n : Nat} {L L' : LS} {x : Cl}
theorem Liv.start {w1 : World} (h : At w1 (emptyLS w.heap.size)) (hb : Below w.heap.size w w1) : Liv w w1 (w.heap.size + 2) (emptyLS w.heap.size) 0 := ⟨h, pinv_empty _ _, rfl, empty_high _, hb⟩
theorem Liv.size (h : Liv w wr g L n) : w.heap.size ≤ wr.heap.size := h.below.size
theorem Liv.lt (h : Liv w wr g L n) : g < wr.heap.size := by have := h.at_.blk.lt; rw [h.gs] at this; exact this
theorem Liv.le (h : Liv w wr g L n) : w.heap.size ≤ g := by have := h.high L.gs (.inl rfl); rw [h.gs] at this; exact this
theorem Liv.on (h : Liv w wr g L n) (hb : Below wr.heap.size wr wx) : Liv w wx g L n := ⟨h.at_.below hb, h.inv, h.gs, h.high, h.below.trans (hb.mono h.size)⟩
theorem Liv.step (h : Liv w wr g L n) (hs : StepTo wr L x wx L') (hi : PInv L'.pure (n + 1)) : Liv w wx g L' (n + 1) := ⟨hs.at_, hi, hs.gs.trans h.gs, hs.high h.size h.high, h.below.trans (hs.below h.size h.high)⟩
theorem Liv.tick (h : Liv w wr g L n) {k : Int} (hA : At wx (L.tick k)) (hK : Keep L.foot wr wx) (hi : PInv (L.tick k).pure n) : Liv w wx g (L.tick k) n := ⟨hA, hi, (tick_gs L k).trans h.gs, fun i hf => h.high i (tick_foot L k hf), h.below.trans (hK.below h.size h.high)⟩
theorem Liv.keep (h : Liv w wr g L n) (hA : At wx L) (hK : Keep L.foot wr wx) : Liv w wx g L n := ⟨hA, h.inv, h.gs, h.high, h.below.trans (hK.below h.size h.high)⟩
/-- What was made behind the store is not the store's. -/
theorem Liv.not_foot (h : Liv w wr g L n) {i : Nat} (hi : wr.heap.size ≤ i) : ¬ L.foot i := fun hf => by have := h.at_.foot_lt hf; omega
end
theorem Ac.ok.dat {a : Ac} {W : World} {B gs : Nat} (h : a.ok W B) (hg : B ≤ gs) : Dat W gs a.A a.c a.d := by
  refine ⟨h.dc, fun hd => ?_⟩
  obtain ⟨b, off, e, hb, hc⟩ := h.bytes.2.2 hd
  exact ⟨b, off, e, by omega, hc⟩
theorem Ac.data_le {a : Ac} {W : World} {B : Nat} (h : a.ok W B) : a.data.length ≤ 140737488355328 := by
  unfold Ac.data
  have h1 := h.dc
  have h2 := h.cm
  split
  · rw [List.length_replicate]; omega
  · omega
theorem Ac.clOk {a : Ac} {W : World} {B : Nat} (h : a.ok W B) (A : Option Addr) (c : Nat) : ClOk (a.cl A c) := ⟨by have := h.key; show a.key.size ≤ maxLen; unfold maxLen; omega, Ac.data_le h, h.n, h.id⟩
/-- An object got by its key alone. -/
def clGet (k : ByteArray) : Cl := ⟨3, k, none, 0, [], 0, 0, 0, 0⟩
def rGet (o : PO) : PR := ⟨0, o.d, o.ver, o.born, 0, [], false⟩
theorem step_get {s : PS} {k : ByteArray} {o : PO} (h : mget s.objs k = some o) : s.step (clGet k).pure = (s, rGet o) := by
  have h' : mget s.objs (clGet k).pure.key = some o := h
  have e : s.getE (clGet k).pure = 0 := by
    unfold PS.getE
    exact (if_neg (by rw [h']; intro hh; cases hh)).trans (if_neg fun hh => absurd (show (3 : Int) = 4 from hh.1) (by decide))
  have e2 : s.getD (clGet k).pure = o.d := by
    unfold PS.getD
    refine (if_neg (fun hh => absurd (show (3 : Int) = 4 from hh) (by decide))).trans ?_
    rw [h']; rfl
  rw [kind_step]
  refine (if_neg (by show ¬ ((3 : Int) = 1 ∨ (3 : Int) = 2); omega)).trans ((if_pos (.inl rfl)).trans ?_)
  unfold PS.get
  rw [if_pos e, e2, h']; rfl
theorem get_live (w : World) {L : LS} {n : Nat} (h : At w L) (hi : PInv L.pure n) (hn : n ≤ 1000000) {k : ByteArray} (hk : k.size ≤ maxLen) {o : PO} (ho : mget L.pure.objs k = some o) :
    Calls Try.prog 12 #[.pointer (some ⟨L.gs, 0, none⟩), .agg #[.int .i64 3, .string k, .slice none 0 0, .int .i64 0, .int .i64 0, .int .i64 0, .int .i64 0]] w fun e w' => ∃ A c Al cl, e = .returned (.agg #[.int .i64 0, .slice A o.d.length c, .int .i64 o.ver, .int .i64 o.born, .int .i64 0, .slice Al 0 cl, .bool false]) ∧ w'.ownsRow w.heap.size 5 1 (.slice A o.d.length c) o.d.length (o.d.map byteV) ∧ At w' L ∧ Below w.heap.size w w' := by
  refine (do_live w (x := clGet k) h hi hn (dat_nil _ _) ⟨hk, by show 0 ≤ _; omega, w0_, w0_⟩).mono ?_
  rintro e w' ⟨L', v, rfl, hr, hs, -⟩
  have e := hs.same (.inl rfl)
  subst e
  rw [step_get ho] at hr
  obtain ⟨A, c, Al, cl, hv, h1, -⟩ := hr
  exact ⟨A, c, Al, cl, by rw [hv]; rfl, h1, hs.at_, hs.quiet (.inl rfl)⟩
theorem few60_calls (w : World) {B c : Nat} {m : Int} (most : Nat) (hm0 : m = (most : Int)) {A : Option Addr} {l : List Ac} (h : Acts w B A l) (hB : B ≤ w.heap.size) (hc : l.length ≤ c) (hl : l.length ≤ 4398046511104) (hm : 0 < most) :
    Calls Try.prog 11 #[.slice A l.length c, .int .i64 m] w fun e w' => ∃ k, k ≤ l.length ∧ k ≤ most ∧ e = .returned (.slice A k c) ∧ Below w.heap.size w w' := by
  subst hm0
  exact few_calls w h hB hc hl hm
end St
end Go.Proofs.Ytlljpjehalodfaa
