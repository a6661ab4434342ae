/- Records: every record of a batch may be one: the closure, slices.IndexFunc, slices.ContainsFunc, every (chapter 9). -/
import Derived.Test.YtennddlihcamnaaProg
import Derived.Test.YtennddlihcamnaaRecB
import Derived.Shelf.SlicesQ.IndexFunc
namespace Go.Proofs.Ytennddlihcamnaa
open Go.RowKit

def allP (l : List Rec) : Prop := ∀ i, i < l.length → recB (recAt l i) = true
instance (l : List Rec) : Decidable (allP l) := by unfold allP; infer_instance
def allR (l : List Rec) : Bool := decide (allP l)

theorem clos_calls (w : World) {B g : Nat} (r : Rec) (h : r.ok w B) (hB : B ≤ w.heap.size) (hg : g < w.heap.size) (hc : w.cell? ⟨g, 0, none⟩ = some (.func (.func 10) #[] #[])) :
    Calls Try.prog 51 #[r.agg, .pointer (some ⟨g, 0, none⟩)] w fun e w' => e = .returned (.bool (!recB r)) ∧ Below w.heap.size w w' := by
  have hr := recRight_calls (w.alloc (.cells #[.int .i64 r.kind, .int .i64 r.time, .slice r.A r.labs.length r.c, .string r.text, .int .i64 r.value, .bool r.null] 28)) r (h.below ((Below.refl B w).alloc hB _)) (by simp; omega)
  have HR := Lib.hid hr
  have hc2 : (w.alloc (.cells #[.int .i64 r.kind, .int .i64 r.time, .slice r.A r.labs.length r.c, .string r.text, .int .i64 r.value, .bool r.null] 28)).cell? ⟨g, 0, none⟩ = some (.func (.func 10) #[] #[]) := (World.cell?_alloc_lt w _ _ hg).trans hc
  clear hr h
  unfold Rec.agg at *
  obtain ⟨kind, time, A, c, labs, text, value, null⟩ := r
  simp only at HR hc2 ⊢
  generalize recB ⟨kind, time, A, c, labs, text, value, null⟩ = rb at *
  have eg : ∀ args w, (callFunc 10 args).run Try.prog w = .ok (.enter 10 args) w := enters_of Try.func10 (by kernel_rfl) rfl
  go_enter Try.func51, Try.ntmps51
  go_wp2_with (go_at_fn 10; refine HR.out.mono ?_; rintro e w1 ⟨rfl, hb1⟩)
  go_ret
  exact ⟨rfl, ((Below.refl _ _).alloc (Nat.le_refl _) _).trans (hb1.mono (by simp))⟩

set_option maxRecDepth 100000 in
set_option maxHeartbeats 800000 in
theorem index_calls (w : World) {B g c : Nat} {A : Option Addr} {l : List Rec} (h : Recs w B A l) (hB : B ≤ w.heap.size) (hg : g < w.heap.size) (hn : l.length ≤ 1954687338211) (hc : w.cell? ⟨g, 0, none⟩ = some (.func (.func 10) #[] #[])) :
    Calls Try.prog 67 #[.slice A l.length c, .func (.func 51) #[] #[.pointer (some ⟨g, 0, none⟩)]] w
      fun e w' => (∃ z : Int, e = .returned (.int .i64 z) ∧ decide (0 ≤ z) = !allR l) ∧ Below w.heap.size w w' := by
  have eg : ∀ args w, (callFunc 51 args).run Try.prog w = .ok (.enter 51 args) w := enters_of Try.func51 (by kernel_rfl) rfl
  go_enter Try.func67, Try.ntmps67
  go_wp2
  go_loopw [8] (fun i wr => ∃ k : Nat, k ≤ l.length ∧ i = .int .i64 (k : Int) ∧ Hid (∀ i, i < k → recB (recAt l i) = true) ∧ Below w.heap.size w wr) (fun i _ => l.length - (intOf i).toNat)
  case atStart => exact ⟨0, Nat.zero_le _, rfl, Lib.hid fun i hi => absurd hi (by omega), Below.refl _ _⟩
  case round =>
    obtain ⟨k, hk, rfl, hall, hbel⟩ := hrel
    by_cases hlt : k < l.length
    · have hsz := hbel.size
      have hr := h.below (hbel.mono hB)
      have hok := hr.each k hlt
      obtain ⟨b, off, rfl, hbB, hcell⟩ := hr.cellAt (show 0 < l.length by omega)
      obtain ⟨c0, c1, c2, c3, c4, c5⟩ := hcell k hlt
      have hcg : wr.cell? ⟨g, 0, none⟩ = some (.func (.func 10) #[] #[]) := (hbel.cell (p := ⟨g, 0, none⟩) hg).trans hc
      have hcl := clos_calls wr (recAt l k) hok (by omega) (by omega) hcg
      have Hno : Hid (recB (recAt l k) = false → allR l = false) := Lib.hid fun h => dcf fun h' => by have := h' k hlt; rw [h] at this; cases this
      have Hst : Hid (recB (recAt l k) = true → ∀ i, i < k + 1 → recB (recAt l i) = true) := Lib.hid fun h i hi => by
        rcases Nat.lt_or_ge i k with h1 | h1
        · exact hall.out i h1
        · obtain rfl : i = k := by omega
          exact h
      clear hcell hr hok hcg
      unfold Rec.agg at hcl
      generalize recAt l k = r at *
      cases hrb : recB r
      · have HN := Lib.hid (Hno.out hrb)
        rw [hrb] at hcl
        have HC := Lib.hid hcl
        clear hcl hrb Hst Hno
        go_wp2_with (go_at_fn 51; refine HC.out.mono ?_; rintro e w1 ⟨rfl, hb1⟩)
        go_ret
        exact ⟨⟨_, rfl, by rw [HN.out]; exact dct (by omega)⟩, hbel.trans (hb1.mono hsz)⟩
      · have HS := Lib.hid (Hst.out hrb)
        rw [hrb] at hcl
        have HC := Lib.hid hcl
        clear hcl hrb Hst Hno
        go_wp2_with (go_at_fn 51; refine HC.out.mono ?_; rintro e w1 ⟨rfl, hb1⟩)
        go_roundw
        case rel => exact ⟨k + 1, by omega, by go_num, HS, hbel.trans (hb1.mono hsz)⟩
        case measure => simp [intOf]; omega
    · obtain rfl : k = l.length := by omega
      have HA : Hid (allR l = true) := Lib.hid (dct hall.out)
      go_wp2
      go_ret
      exact ⟨⟨-1, rfl, by rw [HA.out]; rfl⟩, hbel⟩

theorem every_calls (w : World) {B c : Nat} {A : Option Addr} {l : List Rec} (h : Recs w B A l) (hB : B ≤ w.heap.size) (hn : l.length ≤ 1954687338211) :
    Calls Try.prog 32 #[.slice A l.length c, .func (.func 10) #[] #[]] w fun e w' => e = .returned (.bool (allR l)) ∧ Below w.heap.size w w' := by
  have hi := index_calls (w.alloc (.cells #[.func (.func 10) #[] #[]] 29)) (c := c) (g := w.heap.size) (h.below ((Below.refl B w).alloc hB _)) (by simp; omega) (by simp) hn (by simp)
  have HI := Lib.hid hi
  have hcon : Hid (Calls Try.prog 50 #[.slice A l.length c, .func (.func 51) #[] #[.pointer (some ⟨w.heap.size, 0, none⟩)]] (w.alloc (.cells #[.func (.func 10) #[] #[]] 29))
      fun e w' => e = .returned (.bool (!allR l)) ∧ Below (w.heap.size + 1) (w.alloc (.cells #[.func (.func 10) #[] #[]] 29)) w') := Lib.hid (by
    clear hi h
    go_enter Try.func50, Try.ntmps50
    go_wp2_with fail
    refine HI.out.mono ?_
    rintro e w1 ⟨⟨z, rfl, hz⟩, hb1⟩
    go_wp2
    go_ret
    exact ⟨by rw [← hz]; rfl, hb1.mono (by simp)⟩)
  clear hi h HI
  generalize allR l = a at *
  go_enter Try.func32, Try.ntmps32
  go_wp2_with fail
  refine hcon.out.mono ?_
  rintro e w1 ⟨rfl, hb1⟩
  go_wp2
  go_ret
  exact ⟨by simp, ((Below.refl _ _).alloc (Nat.le_refl _) _).trans (hb1.mono (by simp))⟩
end Go.Proofs.Ytennddlihcamnaa
