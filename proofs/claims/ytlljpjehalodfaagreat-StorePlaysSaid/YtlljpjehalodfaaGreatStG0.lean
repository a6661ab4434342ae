/- A call of a store under way (chapter 14). -/
import Derived.Test.YtlljpjehalodfaaGreatProg
import Derived.Test.YtlljpjehalodfaaGreatStF
namespace Go.Proofs.YtlljpjehalodfaaGreat
open Go.RowKit
namespace St

structure Cl where
  kind : Int
  key : ByteArray
  A : Option Addr
  c : Nat
  d : Bs
  ver : Int
  at_ : Int
  n : Int
  id : Int
def Cl.cells (x : Cl) : Array Value := #[.int .i64 x.kind, .string x.key, .slice x.A x.d.length x.c, .int .i64 x.ver, .int .i64 x.at_, .int .i64 x.n, .int .i64 x.id]
def Cl.val (x : Cl) : Value := .agg x.cells
/-- Made behind block B. -/
def High (B : Nat) (A : Option Addr) : Prop := ∀ a, A = some a → B ≤ a.block
theorem High.own {w : World} {B base size n c : Nat} {e : TypeId} {A : Option Addr} {xs : List Value} (h : w.ownsRow base e size (.slice A n c) n xs) (hB : B ≤ base) : High B A := fun a ha => by
  rcases h.2 with ⟨h0, -⟩ | ⟨g, cap, cur, hv, hb, -⟩
  · injection h0 with h0; rw [ha] at h0; cases h0
  · injection hv with hv; rw [ha] at hv; injection hv with hv; subst hv; exact Nat.le_trans hB hb
/-- A call of store L0 that began in world w: the call in block g3, the reply in block g4. -/
structure Fr (w wX : World) (F : Nat → Prop) (L : LS) (x : Cl) (g3 g4 : Nat) : Prop where
  at_ : At wX L
  res : Blk wX g4 43 rep0
  call : Blk wX g3 34 x.cells
  keep : Keep F w wX
  free : Free L g4
  gs : L.gs < w.heap.size
  h3 : w.heap.size ≤ g3
  h4 : w.heap.size ≤ g4
  dat : Dat wX L.gs x.A x.c x.d
section
variable {w wX wY : World} {F : Nat → Prop} {L L' : LS} {x : Cl} {g3 g4 : Nat}
theorem Fr.below (h : Fr w wX F L x g3 g4) (hb : Below wX.heap.size wX wY) : Fr w wY F L x g3 g4 :=
  ⟨h.at_.below hb, h.res.below hb h.res.lt, h.call.below hb h.call.lt, h.keep.trans (Keep.of_below hb), h.free, h.gs, h.h3, h.h4, h.dat.below hb⟩
theorem Fr.start (F : Nat → Prop) (h : At w L) (hd : Dat w L.gs x.A x.c x.d) : Fr w ((w.alloc (.cells x.cells 34)).alloc (.cells rep0 43)) F L x w.heap.size (w.heap.size + 1) := by
  have e : (w.alloc (.cells x.cells 34)).heap.size = w.heap.size + 1 := by simp
  have hb : Below w.heap.size w ((w.alloc (.cells x.cells 34)).alloc (.cells rep0 43)) := ((Below.refl _ _).alloc (Nat.le_refl _) _).alloc (by omega) _
  refine ⟨h.below hb, ?_, (Blk.new _ _ _).alloc _, Keep.of_below hb, h.free (by omega), h.blk.lt, Nat.le_refl _, by omega, hd.below hb⟩
  have := Blk.new (w.alloc (.cells x.cells 34)) 43 rep0
  rw [e] at this
  exact this
/-- The store turned. -/
theorem Fr.turn (h : Fr w wX F L x g3 g4) (hA : At wY L') (hk : Keep L.foot wX wY) (hf : ∀ i, i < w.heap.size → L.foot i → F i) (hg : L'.gs = L.gs) (hF : Free L' g4) : Fr w wY F L' x g3 g4 := by
  have hg3 := h.gs
  have h3 := h.h3
  have h4 := h.h4
  exact ⟨hA, hk.blk h.res (h.at_.foot_cells h.res (by omega)), hk.blk h.call (h.at_.foot_cells h.call (by omega)), h.keep.then hk hf, hF, by rw [hg]; exact h.gs, h.h3, h.h4, by rw [hg]; exact h.at_.dat h.dat hk⟩
theorem Fr.fin (h : Fr w wX F L x g3 g4) (v0 v1 v2 v3 v4 v5 v6 : Value) : Blk (set7 wX g4 v0 v1 v2 v3 v4 v5 v6) g4 43 #[v0, v1, v2, v3, v4, v5, v6] ∧ At (set7 wX g4 v0 v1 v2 v3 v4 v5 v6) L ∧ Keep F w (set7 wX g4 v0 v1 v2 v3 v4 v5 v6) := by
  have hg3 := h.gs
  have h4 := h.h4
  exact ⟨set7_blk h.res, h.at_.cells set7_keep h.res (by omega) h.free, h.keep.then set7_keep fun i hi e => by omega⟩
theorem At.off (h : At w L) (hg : w.heap.size ≤ g4) : L.gs ≠ g4 := by have := h.blk.lt; omega
end
theorem Dat.offg {w : World} {g c : Nat} {A : Option Addr} {d : Bs} (h : Dat w g A c d) : Off g A d := fun b off e hd => by
  obtain ⟨b', off', e', hb, _⟩ := h.at_ hd
  rw [e] at e'
  injection e' with e'
  injection e' with e'
  rw [e']; exact hb
def errV (e : Int) : Value := .agg #[.int .i64 e, .slice none 0 0, .int .i64 0, .int .i64 0, .int .i64 0, .slice none 0 0, .bool false]
def RetE (w : World) (L : LS) (n : Int) (e : Ending) (w' : World) : Prop := e = .returned (errV n) ∧ At w' L ∧ Keep L.foot w w'
end St
end Go.Proofs.YtlljpjehalodfaaGreat
