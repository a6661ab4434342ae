/- slices.DeleteFunc at strings (chapter 14). -/
import Derived.Test.YtlljpjehalodfaaProg
import Derived.Test.YtlljpjehalodfaaStI
import Derived.Test.YtlljpjehalodfaaIter
namespace Go.Proofs.Ytlljpjehalodfaa
open Go.RowKit Go.Sort Go.Shelf Go.Lib
namespace St

theorem grown_row {α : Type} [Inhabited α] (enc : α → Value) {w : World} {g n off : Nat} {os : Array Obj} (d : Array α) : w.grownBy (grow (putRow enc (Sort.ahead w n) g off d) os) (some g) := by
  refine ⟨rfl, rfl, rfl, by simp, fun k hk hne => ?_⟩
  rw [heap_grow_old _ _ (by simpa using hk)]
  have : g ≠ k := fun e => hne (by rw [e])
  simp [putRow, mapBlock, Sort.ahead, Array.getElem?_modify, this]
theorem below_row {α : Type} [Inhabited α] (enc : α → Value) {w : World} {g n off base : Nat} {os : Array Obj} (d : Array α) (hb : base ≤ g) (hw : base ≤ w.heap.size) : Below base w (grow (putRow enc (Sort.ahead w n) g off d) os) :=
  (Below.refl base w).grown (grown_row enc d) hw fun k e => by injection e with e; omega
def keepF {α : Type} (p : α → Bool) (l : List α) : List α := l.filter fun x => !p x
set_option maxHeartbeats 1600000 in
theorem deleS_calls (w : World) {base c g : Nat} {lb : Array Value} {A : Option Addr} {l : List ByteArray} {w0 : World} {p : ByteArray → Bool} (ho : w.ownsRow base 9 1 (.slice A l.length c) l.length (l.map Value.string)) (ht : Tells base w0 g lb Value.string p) (hw : Below base w0 w) (hn : l.length ≤ 1000000) (hbase : base ≤ w.heap.size) :
    Calls Try.prog 41 #[.slice A l.length c, .func (.func g) #[] lb] w fun e w' => ∃ A', e = .returned (.slice A' (keepF p l).length c) ∧ (keepF p l).length ≤ c ∧ Reads w' w'.heap.size 1 A' (keepF p l).length ((keepF p l).map Value.string) ∧ Below base w w' := by
  rcases ho.2 with ⟨h0, hl⟩ | ⟨b, cap, cur, hv, hbb, hblk, hnc, hcm, hsz, htk⟩
  · obtain rfl : l = [] := List.eq_nil_of_length_eq_zero hl
    injection h0 with h0 _ hc0
    subst h0 hc0
    have hidx := indexS_calls (c := 0) (A := none) w ht hw (Reads.none_ (B := base)) (l := []) (by simp)
    go_enter Try.func41, Try.ntmps41
    go_wp2_with fail
    refine hidx.mono ?_
    rintro e w' ⟨rfl, rfl⟩
    have hx : idxF p ([] : List ByteArray) = -1 := rfl
    rw [hx]
    go_wp2
    go_ret
    exact ⟨none, rfl, Nat.le_refl _, Reads.none_, Below.refl _ _⟩
  · injection hv with hA _ hc
    subst hA hc
    have hR := Reads.of_own ho
    have hH : Holds Value.string w b 0 l.toArray := fun j hj => by
      have hj' : j < l.length := by simpa using hj
      refine ⟨?_, ?_⟩
      · rw [Nat.zero_add, ho.cellAt j (by omega), List.getElem?_map, List.getElem?_eq_getElem hj']
        simp [getElem!_pos, hj']
      · rw [Nat.zero_add]; exact ho.frozenAt j
    have hcon := AnyE.slices_DeleteFunc Try.dele41 Value.string (fun _ => rfl) p g lb ht.1 ByteArray.empty (fun w => by kernel_rfl) b 0 c l.toArray w
      (fun W x hb => (ht.2 W (hw.trans (hb.mono hbase)) x).mono fun e w' ⟨he, hw'⟩ => ⟨he, 0, hw'⟩)
      (fun n os dk x _ => (ht.2 _ (hw.trans (below_row Value.string dk hbb hbase)) x).mono fun e w' ⟨he, hw'⟩ => ⟨he, 0, hw'⟩)
      hH (by simp; omega) (by simpa using hnc)
    change Calls Try.prog 41 #[.slice (some ⟨b, 0, none⟩) l.length c, .func (.func g) #[] lb] w _ at hcon
    refine hcon.mono ?_
    rintro e w' ⟨rfl, q, rfl⟩
    have hle : (keepF p l).length ≤ l.length := List.length_filter_le _ _
    refine ⟨some ⟨b, 0, none⟩, rfl, by omega, ⟨by simp, fun hp => ⟨b, 0, rfl, ?_, fun j u hu => ?_⟩⟩, ?_⟩
    · have hb := (Array.getElem?_eq_some_iff.1 hblk).1
      simpa using hb
    · have hj : j < (keepF p l).length := by have := (List.getElem?_eq_some_iff.1 hu).1; simpa using this
      have h1 := cell?_putRow Value.string (Sort.ahead w q) b 0 l.toArray ((keepF p l) ++ List.replicate (l.length - (keepF p l).length) ByteArray.empty).toArray hH (by simp; omega) j (by simp; omega)
      rw [List.getElem?_map, List.getElem?_eq_getElem hj] at hu
      injection hu with hu
      subst hu
      refine h1.trans ?_
      rw [getElem!_pos _ j (by simp; omega)]
      simp [List.getElem_append_left hj]
    · have := below_row Value.string (w := w) (n := q) (off := 0) (os := #[]) ((keepF p l) ++ List.replicate (l.length - (keepF p l).length) ByteArray.empty).toArray hbb hbase
      rw [grow_empty] at this
      exact this
end St
end Go.Proofs.Ytlljpjehalodfaa
