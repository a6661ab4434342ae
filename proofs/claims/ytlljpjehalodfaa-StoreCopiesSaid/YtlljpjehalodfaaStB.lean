/- The store's small functions (chapter 14). -/
import Derived.Test.YtlljpjehalodfaaProg
import Derived.Test.YtlljpjehalodfaaStA
namespace Go.Proofs.Ytlljpjehalodfaa
open Go.RowKit
namespace St

section
variable {w w' : World} {L L' : LS}
/-- A field of the store is set. -/
theorem At.set (h : At w L) {i : Nat} {u : Value} (hg : L'.gs = L.gs) (ho : L'.bo = L.bo) (hu : L'.bu = L.bu) (h1 : L'.objs = L.objs) (h2 : L'.ups = L.ups) (hc : L'.cells = L.cells.setIfInBounds i u) : At (w.setCell ⟨L.gs, i, none⟩ u) L' := by
  have hk : Keep L.foot w (w.setCell ⟨L.gs, i, none⟩ u) := (Keep.refl _ _).setCell (.inl (.inl rfl)) u
  have hx : ∀ {b : Nat}, b ≠ L.gs → (w.setCell ⟨L.gs, i, none⟩ u).heap[b]? = w.heap[b]? := fun hb => Below.heap_setCell _ _ _ _ hb
  constructor
  · rw [hg, hc]; exact h.blk.set_ i u
  · rw [ho, h1]; exact h.mo.setCell (fun e => h.gs_bo e.symm) u
  · rw [hu, h2]; exact h.mu.setCell (fun e => h.gs_bu e.symm) u
  · rw [hg, h1]; exact fun p hp => h.dat (h.od p hp) hk
  · rw [h2]; exact fun p hp => (h.um p hp).setCell (fun e => h.gs_b hp e.symm) u
  · rw [hg, h2]; exact fun p hp q hq => h.dat (h.ud p hp q hq) hk
  · rw [ho, hu]; exact h.ne
  · rw [ho, hu, h2]; exact h.ub
  · rw [h2]; exact h.one
  · rw [h2]; exact h.uk
/-- The objects turn. -/
theorem At.objs (h : At w L) (hg : w.grownBy w' (some L.bo)) {l : List (ByteArray × Ob)} (hm : MapAt kS evO w' L.bo l) (hd : ∀ p ∈ l, Dat w' L.gs p.2.A p.2.c p.2.d) : At w' { L with objs := l } := by
  have hk : Keep L.foot w w' := Keep.of_grown hg fun i e => by injection e with e; exact .inr (.inl e)
  exact ⟨h.blk.grown hg (fun e => by injection e with e; exact h.gs_bo e), hm, h.mu.kept hg (fun e => by injection e with e; exact h.ne e.symm), hd, fun p hp => (h.um p hp).kept hg (fun e => by injection e with e; exact (h.ub p hp).1 e), fun p hp q hq => h.dat (h.ud p hp q hq) hk, h.ne, h.ub, h.one, h.uk⟩
theorem At.objs_keep (h : At w L) (hg : w.grownBy w' (some L.bo)) : ∀ p ∈ L.objs, Dat w' L.gs p.2.A p.2.c p.2.d := fun p hp => h.dat (h.od p hp) (Keep.of_grown hg fun i e => by injection e with e; exact .inr (.inl e))
theorem At.c_bo (h : At w L) : w.cell? ⟨L.gs, 0, none⟩ = some (.map (some L.bo)) := h.blk.cell 0
theorem At.c_bu (h : At w L) : w.cell? ⟨L.gs, 1, none⟩ = some (.map (some L.bu)) := h.blk.cell 1
theorem At.c_ver (h : At w L) : w.cell? ⟨L.gs, 2, none⟩ = some (.int .i64 L.ver) := h.blk.cell 2
theorem At.c_id (h : At w L) : w.cell? ⟨L.gs, 3, none⟩ = some (.int .i64 L.id) := h.blk.cell 3
theorem At.c_now (h : At w L) : w.cell? ⟨L.gs, 4, none⟩ = some (.int .i64 L.now) := h.blk.cell 4
theorem At.c_all (h : At w L) : w.cell? ⟨L.gs, 5, none⟩ = some (.int .i64 L.all) := h.blk.cell 5
end
theorem now_calls (w : World) {L : LS} (h : At w L) : Calls Try.prog 20 #[.pointer (some ⟨L.gs, 0, none⟩)] w fun e w' => e = .returned (.int .i64 L.now) ∧ w = w' := by
  have c4 := h.c_now
  clear h
  go_enter Try.func20, Try.ntmps20
  go_wp2
  go_ret
  exact ⟨rfl, rfl⟩
theorem all_calls (w : World) {L : LS} (h : At w L) : Calls Try.prog 16 #[.pointer (some ⟨L.gs, 0, none⟩)] w fun e w' => e = .returned (.int .i64 L.all) ∧ w = w' := by
  have c4 := h.c_all
  clear h
  go_enter Try.func16, Try.ntmps16
  go_wp2
  go_ret
  exact ⟨rfl, rfl⟩
set_option maxRecDepth 100000 in
set_option maxHeartbeats 1600000 in
theorem size_calls (w : World) {b : Nat} {parts : List (Int × Pt)} (h : MapAt kI evP w b parts) (hd : ∀ q ∈ parts, q.2.d.length ≤ 262144) (hn : parts.length ≤ 1000000) (key : ByteArray) (born : Int) :
    Calls Try.prog 50 #[.agg #[.string key, .int .i64 born, .map (some b)]] w fun e w' => e = .returned (.int .i64 (msum (fun p : Pt => p.d.length) parts : Nat)) ∧ Below w.heap.size w w' := by
  have HM := Lib.hid h
  have HU := Lib.hid Try.underlying65
  have HD := Lib.hid hd
  have HT : Hid (msum (fun p : Pt => p.d.length) parts ≤ parts.length * 262144) := Lib.hid (msum_le hd)
  clear h hd
  go_enter Try.func50, Try.ntmps50
  go_wp2_with (at_range; go_must (refine wpList_range _ rfl _ rfl (HM.out.alloc _) HU.out rfl ?_))
  intro w2 hr2 hg2 hs2
  have HR2 := Lib.hid hr2
  have HW2 : Hid (Below w.heap.size w w2) := Lib.hid (((Below.refl w.heap.size w).alloc (Nat.le_refl _) _).grown hg2 (by simp) (by intro g hg; cases hg))
  have hb2 := HM.out.lt_
  clear hr2 hg2
  generalize hri : w.heap.size + 1 = ri at *
  go_wp2
  go_loopw [3] (fun n wr => ∃ todo : List (Int × Pt), Hid (RangeAt kI evP wr b ri parts todo) ∧ (∃ k : Nat, n = .int .i64 (k : Int) ∧ Hid (k + msum (fun p : Pt => p.d.length) todo = msum (fun p : Pt => p.d.length) parts)) ∧ Hid (Below w.heap.size w wr)) (fun _ wr => wr.rangeLeft b ri)
  case atStart => exact ⟨parts, HR2, ⟨0, rfl, Lib.hid (by omega)⟩, HW2⟩
  case round =>
    obtain ⟨todo, HR, ⟨k, rfl, HK⟩, HW⟩ := hrel
    obtain ⟨wi, rfl⟩ : ∃ wi : World, wi = wr := ⟨_, rfl⟩
    go_wp2_with (at_next; go_must (refine wpList_next wi rfl _ rfl HR.out rfl ?_ ?_))
    · rintro rfl
      have e1 : k = msum (fun p : Pt => p.d.length) parts := by have := HK.out; rw [msum_nil] at this; exact this
      go_wp2
      go_ret
      exact ⟨by rw [e1]; rfl, HW.out⟩
    · intro x y w4 hxy hr4 hlt4 hg4 hs4 hent
      have HR4 := Lib.hid hr4
      have HK4 : Hid (k + y.d.length + msum (fun p : Pt => p.d.length) (mdel todo x) = msum (fun p : Pt => p.d.length) parts) := Lib.hid (by
        have := HK.out
        have hnd : Nd todo := List.Pairwise.sublist HR.out.sub HM.out.nodup
        have := msum_mdel (fun p : Pt => p.d.length) hnd (mget_of_mem hnd hxy)
        omega)
      have hk9 : (k : Int) + (y.d.length : Int) ≤ 262144000000 := by have := HK4.out; have := HT.out; omega
      have hk0 : (0 : Int) ≤ (k : Int) := by omega
      have hy0 : (0 : Int) ≤ (y.d.length : Int) := by omega
      have HW4 : Hid (Below w.heap.size w w4) := Lib.hid (HW.out.grown hg4 HW.out.size (by intro g hg; injection hg with hg; omega))
      have hev : evP y = .slice y.A y.d.length y.c := rfl
      rw [hev] at hent
      rw [hev]
      clear hr4 hg4 hxy
      go_wp2
      go_roundw
      case rel => exact ⟨mdel todo x, HR4, ⟨k + y.d.length, by push_cast; rfl, HK4⟩, HW4⟩
      case measure =>
        rw [HR4.out.left_eq, HR.out.left_eq]; exact hlt4
end St
end Go.Proofs.Ytlljpjehalodfaa
