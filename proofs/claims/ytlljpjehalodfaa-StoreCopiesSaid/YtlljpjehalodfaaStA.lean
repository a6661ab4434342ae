/- A store in memory (chapter 14). -/
import Derived.Test.YtlljpjehalodfaaProg
import Derived.Test.YtlljpjehalodfaaStP
import Derived.Test.YtlljpjehalodfaaOpen
namespace Go.Proofs.Ytlljpjehalodfaa
open Go.RowKit
namespace St

abbrev Bs := List UInt8
structure Ob where
  A : Option Addr
  c : Nat
  d : Bs
  ver : Int
  born : Int
structure Pt where
  A : Option Addr
  c : Nat
  d : Bs
structure Up where
  key : ByteArray
  born : Int
  b : Nat
  parts : List (Int × Pt)
structure LS where
  gs : Nat
  bo : Nat
  bu : Nat
  objs : List (ByteArray × Ob)
  ups : List (Int × Up)
  ver : Int
  id : Int
  now : Int
  all : Int
def evO (o : Ob) : Value := .agg #[.slice o.A o.d.length o.c, .int .i64 o.ver, .int .i64 o.born]
def evU (u : Up) : Value := .agg #[.string u.key, .int .i64 u.born, .map (some u.b)]
def evP (p : Pt) : Value := .slice p.A p.d.length p.c
def zO : Value := .agg #[.slice none 0 0, .int .i64 0, .int .i64 0]
def zU : Value := .agg #[.string .empty, .int .i64 0, .map none]
def zP : Value := .slice none 0 0
noncomputable abbrev kS : KeyT Try.prog 9 ByteArray := strT Try.underlying9
noncomputable abbrev kI : KeyT Try.prog 3 Int := intT Try.underlying3
theorem zeroO (w : World) : (zeroValue 63).run Try.prog w = .ok zO w := by kernel_rfl
theorem zeroU (w : World) : (zeroValue 67).run Try.prog w = .ok zU w := by kernel_rfl
theorem zeroP (w : World) : (zeroValue 28).run Try.prog w = .ok zP w := by kernel_rfl

/-- Bytes that lie in some block, but not in block gs. -/
structure Dat (w : World) (gs : Nat) (A : Option Addr) (c : Nat) (d : Bs) : Prop where
  len : d.length ≤ c
  at_ : 0 < d.length → ∃ b off, A = some ⟨b, off, none⟩ ∧ b ≠ gs ∧ ∀ j u, (d.map byteV)[j]? = some u → w.cell? ⟨b, off + j, none⟩ = some u
def LS.foot (L : LS) (i : Nat) : Prop := i = L.gs ∨ i = L.bo ∨ i = L.bu ∨ ∃ p ∈ L.ups, i = p.2.b
def LS.cells (L : LS) : Array Value := #[.map (some L.bo), .map (some L.bu), .int .i64 L.ver, .int .i64 L.id, .int .i64 L.now, .int .i64 L.all]
def psum (u : Up) : Nat := msum (fun p : Pt => p.d.length) u.parts
def LS.tot (L : LS) : Nat := msum (fun o : Ob => o.d.length) L.objs + msum psum L.ups
structure At (w : World) (L : LS) : Prop where
  blk : Blk w L.gs 61 L.cells
  mo : MapAt kS evO w L.bo L.objs
  mu : MapAt kI evU w L.bu L.ups
  od : ∀ p ∈ L.objs, Dat w L.gs p.2.A p.2.c p.2.d
  um : ∀ p ∈ L.ups, MapAt kI evP w p.2.b p.2.parts
  ud : ∀ p ∈ L.ups, ∀ q ∈ p.2.parts, Dat w L.gs q.2.A q.2.c q.2.d
  ne : L.bo ≠ L.bu
  ub : ∀ p ∈ L.ups, p.2.b ≠ L.bo ∧ p.2.b ≠ L.bu
  one : ∀ p ∈ L.ups, ∀ q ∈ L.ups, p.2.b = q.2.b → p.1 = q.1
  uk : ∀ p ∈ L.ups, p.2.key.size ≤ maxLen
/-- The numbers of a store that n calls made. -/
structure Inv (L : LS) (n : Nat) : Prop where
  all : L.all = (L.tot : Int)
  big : L.tot ≤ n * 262144
  od : ∀ p ∈ L.objs, p.2.d.length ≤ 262144
  pd : ∀ p ∈ L.ups, ∀ q ∈ p.2.parts, q.2.d.length ≤ 262144
  on : L.objs.length ≤ n
  un : L.ups.length ≤ n
  pn : ∀ p ∈ L.ups, p.2.parts.length ≤ n
  v0 : 0 ≤ L.ver
  v1 : L.ver ≤ (n : Int)
  i0 : 0 ≤ L.id
  i1 : L.id ≤ (n : Int)
  t0 : 0 ≤ L.now
  t1 : L.now ≤ 1099511627776

section
variable {w w' : World} {F : Nat → Prop} {gs c : Nat} {A : Option Addr} {d : Bs} {L : LS}
theorem map_not_cells {P : Program} {k : TypeId} {κ β : Type} {K : KeyT P k κ} {ev : β → Value} {b : Nat} {l : List (κ × β)} (h : MapAt K ev w b l) {cs : Array Value} {t : TypeId} {f : Nat × Nat} : w.heap[b]? ≠ some (Obj.cells cs t f) := fun e => by
  obtain ⟨es, clock, hb, _⟩ := h.own
  rw [hb] at e; cases e
theorem At.foot_cells (h : At w L) {i : Nat} {cs : Array Value} {t : TypeId} {f : Nat × Nat} (hi : w.heap[i]? = some (Obj.cells cs t f)) (hne : i ≠ L.gs) : ¬ L.foot i := by
  rintro (e | e | e | ⟨p, hp, e⟩)
  · exact hne e
  · exact map_not_cells h.mo (e ▸ hi)
  · exact map_not_cells h.mu (e ▸ hi)
  · exact map_not_cells (h.um p hp) (e ▸ hi)
theorem At.foot_lt (h : At w L) {i : Nat} (hi : L.foot i) : i < w.heap.size := by
  rcases hi with e | e | e | ⟨p, hp, e⟩
  · rw [e]; exact h.blk.lt
  · rw [e]; exact h.mo.lt_
  · rw [e]; exact h.mu.lt_
  · rw [e]; exact (h.um p hp).lt_
theorem At.gs_bo (h : At w L) : L.gs ≠ L.bo := fun e => map_not_cells h.mo (e ▸ h.blk)
theorem At.gs_bu (h : At w L) : L.gs ≠ L.bu := fun e => map_not_cells h.mu (e ▸ h.blk)
theorem At.gs_b (h : At w L) {p : Int × Up} (hp : p ∈ L.ups) : L.gs ≠ p.2.b := fun e => map_not_cells (h.um p hp) (e ▸ h.blk)
theorem At.ndo (h : At w L) : Nd L.objs := h.mo.nodup
theorem At.ndu (h : At w L) : Nd L.ups := h.mu.nodup
theorem At.ndp (h : At w L) {p : Int × Up} (hp : p ∈ L.ups) : Nd p.2.parts := (h.um p hp).nodup
theorem Dat.keep (h : Dat w gs A c d) (hk : Keep F w w') (hF : ∀ b off u, A = some ⟨b, off, none⟩ → b ≠ gs → w.cell? ⟨b, off, none⟩ = some u → ¬ F b) : Dat w' gs A c d := by
  refine ⟨h.len, fun hd => ?_⟩
  obtain ⟨b, off, e, hb, hc⟩ := h.at_ hd
  refine ⟨b, off, e, hb, fun j u hu => hk.cell (hc j u hu) ?_⟩
  have h0 := hc 0 (byteV d[0]) (by simp [List.getElem?_eq_getElem hd])
  exact hF b off _ e hb h0
theorem Dat.below (h : Dat w gs A c d) (hb : Below w.heap.size w w') : Dat w' gs A c d := h.keep (F := fun _ => False) (Keep.of_below hb) fun _ _ _ _ _ _ => id
/-- Cells that the store turns are its own block's only. -/
theorem At.dat (h : At w L) (hd : Dat w L.gs A c d) (hk : Keep L.foot w w') : Dat w' L.gs A c d := hd.keep hk fun b off u _ hb hu => by
  obtain ⟨_, cs, t, f, hi⟩ := cell_lt hu
  exact h.foot_cells hi hb
theorem Dat.of_own {base : Nat} {t : TypeId} (h : w.ownsRow base t 1 (.slice A d.length c) d.length (d.map byteV)) (hb : gs < base) : Dat w gs A c d := by
  obtain ⟨A', c', e, hlen, -, hr⟩ := own_slice h
  injection e with e1 e2 e3
  subst e1 e3
  refine ⟨hlen, fun hd => ?_⟩
  obtain ⟨b, off, e, hlt, hc⟩ := hr.2 hd
  refine ⟨b, off, e, ?_, hc⟩
  rcases h.2 with ⟨h0, -⟩ | ⟨g, cap, cur, hv, hbg, -⟩
  · injection h0 with h0
    rw [h0] at e; cases e
  · injection hv with hv
    rw [hv] at e
    injection e with e
    injection e with e
    omega
theorem Dat.bytes (h : Dat w gs A c d) : Bytes w w.heap.size A d.length d := .of ⟨by simp, fun hd => by
  obtain ⟨b, off, e, hb, hc⟩ := h.at_ hd
  refine ⟨b, off, e, ?_, hc⟩
  exact (cell_lt (hc 0 (byteV d[0]) (by simp [List.getElem?_eq_getElem hd]))).1⟩
theorem At.below (h : At w L) (hb : Below w.heap.size w w') : At w' L :=
  ⟨h.blk.below hb h.blk.lt, h.mo.below hb h.mo.lt_, h.mu.below hb h.mu.lt_, fun p hp => (h.od p hp).below hb, fun p hp => (h.um p hp).below hb (h.um p hp).lt_, fun p hp q hq => (h.ud p hp q hq).below hb, h.ne, h.ub, h.one, h.uk⟩
theorem At.drewN (h : At w L) (n : Nat) : At (w.drewN n) L := h.below (below_drewN_ (Below.refl _ _) n)
theorem At.alloc (h : At w L) (o : Obj) : At (w.alloc o) L := h.below ((Below.refl _ _).alloc (Nat.le_refl _) _)
/-- What doesn't touch the store. -/
theorem At.apart (h : At w L) {F : Nat → Prop} (hk : Keep F w w') (hF : ∀ i, L.foot i → ¬ F i) (hc : ∀ (i : Nat) (cs : Array Value) (t : TypeId) (f : Nat × Nat), w.heap[i]? = some (Obj.cells cs t f) → i ≠ L.gs → ¬ F i) : At w' L := by
  have hd : ∀ {A c d}, Dat w L.gs A c d → Dat w' L.gs A c d := fun hd => hd.keep hk fun b off u _ hb hu => by
    obtain ⟨_, cs, t, f, hi⟩ := cell_lt hu
    exact hc _ _ _ _ hi hb
  exact ⟨hk.blk h.blk (hF _ (.inl rfl)), hk.map h.mo (hF _ (.inr (.inl rfl))), hk.map h.mu (hF _ (.inr (.inr (.inl rfl)))), fun p hp => hd (h.od p hp), fun p hp => hk.map (h.um p hp) (hF _ (.inr (.inr (.inr ⟨p, hp, rfl⟩)))), fun p hp q hq => hd (h.ud p hp q hq), h.ne, h.ub, h.one, h.uk⟩
end
end St
end Go.Proofs.Ytlljpjehalodfaa
