/- A store in memory (chapter 14). The store's small functions (chapter 14). A store's making, clock, room, and an object made (chapter 14). -/
import Derived.Test.YtlljpjehalodfaaGreatProg
import Derived.Test.YtlljpjehalodfaaGreatStP
import Derived.Test.YtlljpjehalodfaaGreatOpen

namespace Go.Proofs.YtlljpjehalodfaaGreat
open Go.RowKit
namespace St

abbrev Bs := List UInt8
structure Ob where
  A : Option Addr
  c : Nat
  d : Bs
  ver : Int
  born : Int
structure Pt where
  A : Option Addr
  c : Nat
  d : Bs
structure Up where
  key : ByteArray
  born : Int
  b : Nat
  parts : List (Int × Pt)
structure LS where
  gs : Nat
  bo : Nat
  bu : Nat
  objs : List (ByteArray × Ob)
  ups : List (Int × Up)
  ver : Int
  id : Int
  now : Int
  all : Int
def evO (o : Ob) : Value := .agg #[.slice o.A o.d.length o.c, .int .i64 o.ver, .int .i64 o.born]
def evU (u : Up) : Value := .agg #[.string u.key, .int .i64 u.born, .map (some u.b)]
def evP (p : Pt) : Value := .slice p.A p.d.length p.c
def zO : Value := .agg #[.slice none 0 0, .int .i64 0, .int .i64 0]
def zU : Value := .agg #[.string .empty, .int .i64 0, .map none]
def zP : Value := .slice none 0 0
noncomputable abbrev kS : KeyT Tryz.prog 9 ByteArray := strT Tryz.underlying9
noncomputable abbrev kI : KeyT Tryz.prog 3 Int := intT Tryz.underlying3
theorem zeroO (w : World) : (zeroValue 53).run Tryz.prog w = .ok zO w := by kernel_rfl
theorem zeroU (w : World) : (zeroValue 57).run Tryz.prog w = .ok zU w := by kernel_rfl
theorem zeroP (w : World) : (zeroValue 32).run Tryz.prog w = .ok zP w := by kernel_rfl

/-- Bytes that lie in some block, but not in block gs. -/
structure Dat (w : World) (gs : Nat) (A : Option Addr) (c : Nat) (d : Bs) : Prop where
  len : d.length ≤ c
  at_ : 0 < d.length → ∃ b off, A = some ⟨b, off, none⟩ ∧ b ≠ gs ∧ ∀ j u, (d.map byteV)[j]? = some u → w.cell? ⟨b, off + j, none⟩ = some u
def LS.foot (L : LS) (i : Nat) : Prop := i = L.gs ∨ i = L.bo ∨ i = L.bu ∨ ∃ p ∈ L.ups, i = p.2.b
def LS.cells (L : LS) : Array Value := #[.map (some L.bo), .map (some L.bu), .int .i64 L.ver, .int .i64 L.id, .int .i64 L.now, .int .i64 L.all]
def psum (u : Up) : Nat := msum (fun p : Pt => p.d.length) u.parts
def LS.tot (L : LS) : Nat := msum (fun o : Ob => o.d.length) L.objs + msum psum L.ups
structure At (w : World) (L : LS) : Prop where
  blk : Blk w L.gs 51 L.cells
  mo : MapAt kS evO w L.bo L.objs
  mu : MapAt kI evU w L.bu L.ups
  od : ∀ p ∈ L.objs, Dat w L.gs p.2.A p.2.c p.2.d
  um : ∀ p ∈ L.ups, MapAt kI evP w p.2.b p.2.parts
  ud : ∀ p ∈ L.ups, ∀ q ∈ p.2.parts, Dat w L.gs q.2.A q.2.c q.2.d
  ne : L.bo ≠ L.bu
  ub : ∀ p ∈ L.ups, p.2.b ≠ L.bo ∧ p.2.b ≠ L.bu
  one : ∀ p ∈ L.ups, ∀ q ∈ L.ups, p.2.b = q.2.b → p.1 = q.1
  uk : ∀ p ∈ L.ups, p.2.key.size ≤ maxLen
/-- The numbers of a store that n calls made. -/
structure Inv (L : LS) (n : Nat) : Prop where
  all : L.all = (L.tot : Int)
  big : L.tot ≤ n * 262144
  od : ∀ p ∈ L.objs, p.2.d.length ≤ 262144
  pd : ∀ p ∈ L.ups, ∀ q ∈ p.2.parts, q.2.d.length ≤ 262144
  on : L.objs.length ≤ n
  un : L.ups.length ≤ n
  pn : ∀ p ∈ L.ups, p.2.parts.length ≤ n
  v0 : 0 ≤ L.ver
  v1 : L.ver ≤ (n : Int)
  i0 : 0 ≤ L.id
  i1 : L.id ≤ (n : Int)
  t0 : 0 ≤ L.now
  t1 : L.now ≤ 1099511627776

section
variable {w w' : World} {F : Nat → Prop} {gs c : Nat} {A : Option Addr} {d : Bs} {L : LS}
theorem map_not_cells {P : Program} {k : TypeId} {κ β : Type} {K : KeyT P k κ} {ev : β → Value} {b : Nat} {l : List (κ × β)} (h : MapAt K ev w b l) {cs : Array Value} {t : TypeId} {f : Nat × Nat} : w.heap[b]? ≠ some (Obj.cells cs t f) := fun e => by
  obtain ⟨es, clock, hb, _⟩ := h.own
  rw [hb] at e; cases e
theorem At.foot_cells (h : At w L) {i : Nat} {cs : Array Value} {t : TypeId} {f : Nat × Nat} (hi : w.heap[i]? = some (Obj.cells cs t f)) (hne : i ≠ L.gs) : ¬ L.foot i := by
  rintro (e | e | e | ⟨p, hp, e⟩)
  · exact hne e
  · exact map_not_cells h.mo (e ▸ hi)
  · exact map_not_cells h.mu (e ▸ hi)
  · exact map_not_cells (h.um p hp) (e ▸ hi)
theorem At.foot_lt (h : At w L) {i : Nat} (hi : L.foot i) : i < w.heap.size := by
  rcases hi with e | e | e | ⟨p, hp, e⟩
  · rw [e]; exact h.blk.lt
  · rw [e]; exact h.mo.lt_
  · rw [e]; exact h.mu.lt_
  · rw [e]; exact (h.um p hp).lt_
theorem At.gs_bo (h : At w L) : L.gs ≠ L.bo := fun e => map_not_cells h.mo (e ▸ h.blk)
theorem At.gs_bu (h : At w L) : L.gs ≠ L.bu := fun e => map_not_cells h.mu (e ▸ h.blk)
theorem At.gs_b (h : At w L) {p : Int × Up} (hp : p ∈ L.ups) : L.gs ≠ p.2.b := fun e => map_not_cells (h.um p hp) (e ▸ h.blk)
theorem At.ndo (h : At w L) : Nd L.objs := h.mo.nodup
theorem At.ndu (h : At w L) : Nd L.ups := h.mu.nodup
theorem At.ndp (h : At w L) {p : Int × Up} (hp : p ∈ L.ups) : Nd p.2.parts := (h.um p hp).nodup
theorem Dat.keep (h : Dat w gs A c d) (hk : Keep F w w') (hF : ∀ b off u, A = some ⟨b, off, none⟩ → b ≠ gs → w.cell? ⟨b, off, none⟩ = some u → ¬ F b) : Dat w' gs A c d := by
  refine ⟨h.len, fun hd => ?_⟩
  obtain ⟨b, off, e, hb, hc⟩ := h.at_ hd
  refine ⟨b, off, e, hb, fun j u hu => hk.cell (hc j u hu) ?_⟩
  have h0 := hc 0 (byteV d[0]) (by simp [List.getElem?_eq_getElem hd])
  exact hF b off _ e hb h0
theorem Dat.below (h : Dat w gs A c d) (hb : Below w.heap.size w w') : Dat w' gs A c d := h.keep (F := fun _ => False) (Keep.of_below hb) fun _ _ _ _ _ _ => id
/-- Cells that the store turns are its own block's only. -/
theorem At.dat (h : At w L) (hd : Dat w L.gs A c d) (hk : Keep L.foot w w') : Dat w' L.gs A c d := hd.keep hk fun b off u _ hb hu => by
  obtain ⟨_, cs, t, f, hi⟩ := cell_lt hu
  exact h.foot_cells hi hb
theorem Dat.of_own {base : Nat} {t : TypeId} (h : w.ownsRow base t 1 (.slice A d.length c) d.length (d.map byteV)) (hb : gs < base) : Dat w gs A c d := by
  obtain ⟨A', c', e, hlen, -, hr⟩ := own_slice h
  injection e with e1 e2 e3
  subst e1 e3
  refine ⟨hlen, fun hd => ?_⟩
  obtain ⟨b, off, e, hlt, hc⟩ := hr.2 hd
  refine ⟨b, off, e, ?_, hc⟩
  rcases h.2 with ⟨h0, -⟩ | ⟨g, cap, cur, hv, hbg, -⟩
  · injection h0 with h0
    rw [h0] at e; cases e
  · injection hv with hv
    rw [hv] at e
    injection e with e
    injection e with e
    omega
theorem Dat.bytes (h : Dat w gs A c d) : Bytes w w.heap.size A d.length d := .of ⟨by simp, fun hd => by
  obtain ⟨b, off, e, hb, hc⟩ := h.at_ hd
  refine ⟨b, off, e, ?_, hc⟩
  exact (cell_lt (hc 0 (byteV d[0]) (by simp [List.getElem?_eq_getElem hd]))).1⟩
theorem At.below (h : At w L) (hb : Below w.heap.size w w') : At w' L :=
  ⟨h.blk.below hb h.blk.lt, h.mo.below hb h.mo.lt_, h.mu.below hb h.mu.lt_, fun p hp => (h.od p hp).below hb, fun p hp => (h.um p hp).below hb (h.um p hp).lt_, fun p hp q hq => (h.ud p hp q hq).below hb, h.ne, h.ub, h.one, h.uk⟩
theorem At.drewN (h : At w L) (n : Nat) : At (w.drewN n) L := h.below (below_drewN_ (Below.refl _ _) n)
theorem At.alloc (h : At w L) (o : Obj) : At (w.alloc o) L := h.below ((Below.refl _ _).alloc (Nat.le_refl _) _)
/-- What doesn't touch the store. -/
theorem At.apart (h : At w L) {F : Nat → Prop} (hk : Keep F w w') (hF : ∀ i, L.foot i → ¬ F i) (hc : ∀ (i : Nat) (cs : Array Value) (t : TypeId) (f : Nat × Nat), w.heap[i]? = some (Obj.cells cs t f) → i ≠ L.gs → ¬ F i) : At w' L := by
  have hd : ∀ {A c d}, Dat w L.gs A c d → Dat w' L.gs A c d := fun hd => hd.keep hk fun b off u _ hb hu => by
    obtain ⟨_, cs, t, f, hi⟩ := cell_lt hu
    exact hc _ _ _ _ hi hb
  exact ⟨hk.blk h.blk (hF _ (.inl rfl)), hk.map h.mo (hF _ (.inr (.inl rfl))), hk.map h.mu (hF _ (.inr (.inr (.inl rfl)))), fun p hp => hd (h.od p hp), fun p hp => hk.map (h.um p hp) (hF _ (.inr (.inr (.inr ⟨p, hp, rfl⟩)))), fun p hp q hq => hd (h.ud p hp q hq), h.ne, h.ub, h.one, h.uk⟩
end
end St
end Go.Proofs.YtlljpjehalodfaaGreat

namespace Go.Proofs.YtlljpjehalodfaaGreat
open Go.RowKit
namespace St

section
variable {w w' : World} {L L' : LS}
/-- A field of the store is set. -/
theorem At.set (h : At w L) {i : Nat} {u : Value} (hg : L'.gs = L.gs) (ho : L'.bo = L.bo) (hu : L'.bu = L.bu) (h1 : L'.objs = L.objs) (h2 : L'.ups = L.ups) (hc : L'.cells = L.cells.setIfInBounds i u) : At (w.setCell ⟨L.gs, i, none⟩ u) L' := by
  have hk : Keep L.foot w (w.setCell ⟨L.gs, i, none⟩ u) := (Keep.refl _ _).setCell (.inl (.inl rfl)) u
  have hx : ∀ {b : Nat}, b ≠ L.gs → (w.setCell ⟨L.gs, i, none⟩ u).heap[b]? = w.heap[b]? := fun hb => Below.heap_setCell _ _ _ _ hb
  constructor
  · rw [hg, hc]; exact h.blk.set_ i u
  · rw [ho, h1]; exact h.mo.setCell (fun e => h.gs_bo e.symm) u
  · rw [hu, h2]; exact h.mu.setCell (fun e => h.gs_bu e.symm) u
  · rw [hg, h1]; exact fun p hp => h.dat (h.od p hp) hk
  · rw [h2]; exact fun p hp => (h.um p hp).setCell (fun e => h.gs_b hp e.symm) u
  · rw [hg, h2]; exact fun p hp q hq => h.dat (h.ud p hp q hq) hk
  · rw [ho, hu]; exact h.ne
  · rw [ho, hu, h2]; exact h.ub
  · rw [h2]; exact h.one
  · rw [h2]; exact h.uk
/-- The objects turn. -/
theorem At.objs (h : At w L) (hg : w.grownBy w' (some L.bo)) {l : List (ByteArray × Ob)} (hm : MapAt kS evO w' L.bo l) (hd : ∀ p ∈ l, Dat w' L.gs p.2.A p.2.c p.2.d) : At w' { L with objs := l } := by
  have hk : Keep L.foot w w' := Keep.of_grown hg fun i e => by injection e with e; exact .inr (.inl e)
  exact ⟨h.blk.grown hg (fun e => by injection e with e; exact h.gs_bo e), hm, h.mu.kept hg (fun e => by injection e with e; exact h.ne e.symm), hd, fun p hp => (h.um p hp).kept hg (fun e => by injection e with e; exact (h.ub p hp).1 e), fun p hp q hq => h.dat (h.ud p hp q hq) hk, h.ne, h.ub, h.one, h.uk⟩
theorem At.objs_keep (h : At w L) (hg : w.grownBy w' (some L.bo)) : ∀ p ∈ L.objs, Dat w' L.gs p.2.A p.2.c p.2.d := fun p hp => h.dat (h.od p hp) (Keep.of_grown hg fun i e => by injection e with e; exact .inr (.inl e))
theorem At.c_bo (h : At w L) : w.cell? ⟨L.gs, 0, none⟩ = some (.map (some L.bo)) := h.blk.cell 0
theorem At.c_bu (h : At w L) : w.cell? ⟨L.gs, 1, none⟩ = some (.map (some L.bu)) := h.blk.cell 1
theorem At.c_ver (h : At w L) : w.cell? ⟨L.gs, 2, none⟩ = some (.int .i64 L.ver) := h.blk.cell 2
theorem At.c_id (h : At w L) : w.cell? ⟨L.gs, 3, none⟩ = some (.int .i64 L.id) := h.blk.cell 3
theorem At.c_now (h : At w L) : w.cell? ⟨L.gs, 4, none⟩ = some (.int .i64 L.now) := h.blk.cell 4
theorem At.c_all (h : At w L) : w.cell? ⟨L.gs, 5, none⟩ = some (.int .i64 L.all) := h.blk.cell 5
end
theorem now_calls (w : World) {L : LS} (h : At w L) : Calls Tryz.prog 37 #[.pointer (some ⟨L.gs, 0, none⟩)] w fun e w' => e = .returned (.int .i64 L.now) ∧ w = w' := by
  have c4 := h.c_now
  clear h
  go_enter Tryz.func37, Tryz.ntmps37
  go_wp2
  go_ret
  exact ⟨rfl, rfl⟩
theorem all_calls (w : World) {L : LS} (h : At w L) : Calls Tryz.prog 36 #[.pointer (some ⟨L.gs, 0, none⟩)] w fun e w' => e = .returned (.int .i64 L.all) ∧ w = w' := by
  have c4 := h.c_all
  clear h
  go_enter Tryz.func36, Tryz.ntmps36
  go_wp2
  go_ret
  exact ⟨rfl, rfl⟩
set_option maxRecDepth 100000 in
set_option maxHeartbeats 1600000 in
theorem size_calls (w : World) {b : Nat} {parts : List (Int × Pt)} (h : MapAt kI evP w b parts) (hd : ∀ q ∈ parts, q.2.d.length ≤ 262144) (hn : parts.length ≤ 1000000) (key : ByteArray) (born : Int) :
    Calls Tryz.prog 51 #[.agg #[.string key, .int .i64 born, .map (some b)]] w fun e w' => e = .returned (.int .i64 (msum (fun p : Pt => p.d.length) parts : Nat)) ∧ Below w.heap.size w w' := by
  have HM := Lib.hid h
  have HU := Lib.hid Tryz.underlying55
  have HD := Lib.hid hd
  have HT : Hid (msum (fun p : Pt => p.d.length) parts ≤ parts.length * 262144) := Lib.hid (msum_le hd)
  clear h hd
  go_enter Tryz.func51, Tryz.ntmps51
  go_wp2_with (at_range; go_must (refine wpList_range _ rfl _ rfl (HM.out.alloc _) HU.out rfl ?_))
  intro w2 hr2 hg2 hs2
  have HR2 := Lib.hid hr2
  have HW2 : Hid (Below w.heap.size w w2) := Lib.hid (((Below.refl w.heap.size w).alloc (Nat.le_refl _) _).grown hg2 (by simp) (by intro g hg; cases hg))
  have hb2 := HM.out.lt_
  clear hr2 hg2
  generalize hri : w.heap.size + 1 = ri at *
  go_wp2
  go_loopw [3] (fun n wr => ∃ todo : List (Int × Pt), Hid (RangeAt kI evP wr b ri parts todo) ∧ (∃ k : Nat, n = .int .i64 (k : Int) ∧ Hid (k + msum (fun p : Pt => p.d.length) todo = msum (fun p : Pt => p.d.length) parts)) ∧ Hid (Below w.heap.size w wr)) (fun _ wr => wr.rangeLeft b ri)
  case atStart => exact ⟨parts, HR2, ⟨0, rfl, Lib.hid (by omega)⟩, HW2⟩
  case round =>
    obtain ⟨todo, HR, ⟨k, rfl, HK⟩, HW⟩ := hrel
    obtain ⟨wi, rfl⟩ : ∃ wi : World, wi = wr := ⟨_, rfl⟩
    go_wp2_with (at_next; go_must (refine wpList_next wi rfl _ rfl HR.out rfl ?_ ?_))
    · rintro rfl
      have e1 : k = msum (fun p : Pt => p.d.length) parts := by have := HK.out; rw [msum_nil] at this; exact this
      go_wp2
      go_ret
      exact ⟨by rw [e1]; rfl, HW.out⟩
    · intro x y w4 hxy hr4 hlt4 hg4 hs4 hent
      have HR4 := Lib.hid hr4
      have HK4 : Hid (k + y.d.length + msum (fun p : Pt => p.d.length) (mdel todo x) = msum (fun p : Pt => p.d.length) parts) := Lib.hid (by
        have := HK.out
        have hnd : Nd todo := List.Pairwise.sublist HR.out.sub HM.out.nodup
        have := msum_mdel (fun p : Pt => p.d.length) hnd (mget_of_mem hnd hxy)
        omega)
      have hk9 : (k : Int) + (y.d.length : Int) ≤ 262144000000 := by have := HK4.out; have := HT.out; omega
      have hk0 : (0 : Int) ≤ (k : Int) := by omega
      have hy0 : (0 : Int) ≤ (y.d.length : Int) := by omega
      have HW4 : Hid (Below w.heap.size w w4) := Lib.hid (HW.out.grown hg4 HW.out.size (by intro g hg; injection hg with hg; omega))
      have hev : evP y = .slice y.A y.d.length y.c := rfl
      rw [hev] at hent
      rw [hev]
      clear hr4 hg4 hxy
      go_wp2
      go_roundw
      case rel => exact ⟨mdel todo x, HR4, ⟨k + y.d.length, by push_cast; rfl, HK4⟩, HW4⟩
      case measure =>
        rw [HR4.out.left_eq, HR.out.left_eq]; exact hlt4
end St
end Go.Proofs.YtlljpjehalodfaaGreat

namespace Go.Proofs.YtlljpjehalodfaaGreat
open Go.RowKit
namespace St

def emptyLS (g : Nat) : LS := ⟨g + 2, g, g + 1, [], [], 0, 0, 0, 0⟩
theorem inv_empty (g n : Nat) : Inv (emptyLS g) n where
  all := rfl
  big := Nat.zero_le _
  od p hp := by cases hp
  pd p hp := by cases hp
  on := Nat.zero_le _
  un := Nat.zero_le _
  pn p hp := by cases hp
  v0 := Int.le_refl _
  v1 := Int.natCast_nonneg _
  i0 := Int.le_refl _
  i1 := Int.natCast_nonneg _
  t0 := Int.le_refl _
  t1 := by show (0 : Int) ≤ 1099511627776; decide
set_option maxHeartbeats 800000 in
theorem new_calls (w : World) : Calls Tryz.prog 4 #[] w fun e w' => e = .returned (.pointer (some ⟨w.heap.size + 2, 0, none⟩)) ∧ At w' (emptyLS w.heap.size) ∧ Below w.heap.size w w' := by
  have hmm := @run_makeMap Tryz.prog
  have HU := Lib.hid Tryz.underlying48
  have HU2 := Lib.hid Tryz.underlying49
  go_enter Tryz.func4, Tryz.ntmps4
  go_wp2
  go_ret
  have b1 : Below w.heap.size w (w.alloc (.map #[] 0)) := (Below.refl _ _).alloc (Nat.le_refl _) _
  have hz : (w.alloc (.map #[] 0)).heap.size = w.heap.size + 1 := by simp
  have hz2 : ((w.alloc (.map #[] 0)).alloc (.map #[] 0)).heap.size = w.heap.size + 2 := by simp
  have b2 : Below w.heap.size w ((w.alloc (.map #[] 0)).alloc (.map #[] 0)) := b1.alloc (by omega) _
  have m1 := MapAt.new kS evO w
  have m2 := MapAt.new kI evU (w.alloc (.map #[] 0))
  rw [hz] at m2
  refine ⟨by simp, ⟨?_, (m1.alloc _).alloc _, m2.alloc _, fun p hp => (by cases hp), fun p hp => (by cases hp), fun p hp => (by cases hp), (by simp [emptyLS]), fun p hp => (by cases hp), fun p hp => (by cases hp), fun p hp => (by cases hp)⟩, b2.alloc (by omega) _⟩
  have := Blk.new ((w.alloc (.map #[] 0)).alloc (.map #[] 0)) 51 (emptyLS w.heap.size).cells
  rw [hz2] at this
  exact this

def tickE (now n : Int) : Int := if n < 0 ∨ 1099511627776 < n then 1 else if 1099511627775 - now < n then 2 else 0
def LS.tick (L : LS) (n : Int) : LS := if tickE L.now n = 0 then { L with now := L.now + n } else L
theorem tick_calls (w : World) {L : LS} (h : At w L) {n : Int} (hn : -9223372036854775808 ≤ n) (hn' : n ≤ 9223372036854775807) (h0 : 0 ≤ L.now) (h1 : L.now ≤ 1099511627776) :
    Calls Tryz.prog 7 #[.pointer (some ⟨L.gs, 0, none⟩), .int .i64 n] w fun e w' => e = .returned (.int .i64 (tickE L.now n)) ∧ At w' (L.tick n) ∧ Keep L.foot w w' := by
  have c4 := h.c_now
  have HA := Lib.hid h
  have HFZ := h.blk.frozen 4
  clear h
  by_cases a1 : n < 0
  · have HT : Hid (tickE L.now n = 1) := Lib.hid (by unfold tickE; rw [if_pos (.inl a1)])
    have HL : Hid (L.tick n = L) := Lib.hid (by unfold LS.tick; rw [HT.out]; rfl)
    have b1 := dct a1
    go_enter Tryz.func7, Tryz.ntmps7
    go_wp2
    go_ret
    exact ⟨by rw [HT.out]; rfl, by rw [HL.out]; exact HA.out, Keep.refl _ _⟩
  · by_cases a2 : 1099511627776 < n
    · have HT : Hid (tickE L.now n = 1) := Lib.hid (by unfold tickE; rw [if_pos (.inr a2)])
      have HL : Hid (L.tick n = L) := Lib.hid (by unfold LS.tick; rw [HT.out]; rfl)
      have b1 := dcf a1
      have b2 := dct a2
      go_enter Tryz.func7, Tryz.ntmps7
      go_wp2
      go_ret
      exact ⟨by rw [HT.out]; rfl, by rw [HL.out]; exact HA.out, Keep.refl _ _⟩
    · by_cases a3 : 1099511627775 - L.now < n
      · have HT : Hid (tickE L.now n = 2) := Lib.hid (by unfold tickE; rw [if_neg (by omega), if_pos a3])
        have HL : Hid (L.tick n = L) := Lib.hid (by unfold LS.tick; rw [HT.out]; rfl)
        have b1 := dcf a1
        have b2 := dcf a2
        go_enter Tryz.func7, Tryz.ntmps7
        go_wp2
        go_ret
        exact ⟨by rw [HT.out]; rfl, by rw [HL.out]; exact HA.out, Keep.refl _ _⟩
      · have HT : Hid (tickE L.now n = 0) := Lib.hid (by unfold tickE; rw [if_neg (by omega), if_neg a3])
        have HL : Hid (L.tick n = { L with now := L.now + n }) := Lib.hid (by unfold LS.tick; rw [HT.out]; rfl)
        have b1 := dcf a1
        have b2 := dcf a2
        go_enter Tryz.func7, Tryz.ntmps7
        go_wp2
        go_ret
        exact ⟨by rw [HT.out]; rfl, by rw [HL.out]; exact HA.out.set rfl rfl rfl rfl rfl rfl, (Keep.refl _ _).setCell (.inl (.inl rfl)) _⟩

def ob0 : Ob := ⟨none, 0, [], 0, 0⟩
theorem elimO (l : List (ByteArray × Ob)) (k : ByteArray) : (mget l k).elim zO evO = evO ((mget l k).getD ob0) := by
  cases mget l k <;> rfl
def LS.crowded (L : LS) (k : ByteArray) : Bool := !(mget L.objs k).isSome && decide (512 ≤ L.objs.length)
set_option maxHeartbeats 800000 in
theorem crowded_calls (w : World) {L : LS} (h : At w L) {k : ByteArray} (hk : k.size ≤ maxLen) (hn : L.objs.length ≤ 1000000) :
    Calls Tryz.prog 39 #[.pointer (some ⟨L.gs, 0, none⟩), .string k] w fun e w' => e = .returned (.bool (L.crowded k)) ∧ Below w.heap.size w w' := by
  have c0 := h.c_bo
  have HM := Lib.hid h.mo
  have HU := Lib.hid Tryz.underlying48
  have HOK : Hid ((kS).ok k) := Lib.hid hk
  have hlt := h.blk.lt
  have HE := Lib.hid (elimO L.objs k)
  unfold LS.crowded
  clear h
  generalize ho : (mget L.objs k).getD ob0 = o at *
  have HV : Hid (evO o = .agg #[.slice o.A o.d.length o.c, .int .i64 o.ver, .int .i64 o.born]) := Lib.hid rfl
  cases hq : (mget L.objs k).isSome with
  | true =>
    go_enter Tryz.func39, Tryz.ntmps39
    go_wp2_with (at_lookup; go_must (refine wpList_askv _ rfl _ _ rfl HM.out HU.out (zeroO _) k rfl rfl HOK.out _ true (HE.out.trans HV.out) hq ?_))
    go_ret
    exact ⟨rfl, (Below.refl _ _).alloc (Nat.le_refl _) _⟩
  | false =>
    have hlen := (HM.out.alloc (.cells #[.slice o.A o.d.length o.c, .int .i64 o.ver, .int .i64 o.born] 53)).len_run HU.out 3
    have hlt1 : L.gs < (w.alloc (.cells #[.slice o.A o.d.length o.c, .int .i64 o.ver, .int .i64 o.born] 53)).heap.size := by simp; omega
    go_enter Tryz.func39, Tryz.ntmps39
    go_wp2_with (at_lookup; go_must (refine wpList_askv _ rfl _ _ rfl HM.out HU.out (zeroO _) k rfl rfl HOK.out _ false (HE.out.trans HV.out) hq ?_))
    go_ret
    refine ⟨?_, (Below.refl _ _).alloc (Nat.le_refl _) _⟩
    have e : decide ((512 : Int) ≤ (L.objs.length : Int)) = (!false && decide (512 ≤ L.objs.length)) := by
      rw [Bool.not_false, Bool.true_and]; exact decide_eq_decide.2 (by omega)
    exact congrArg (fun b => Ending.returned (.bool b)) e
end St
end Go.Proofs.YtlljpjehalodfaaGreat
