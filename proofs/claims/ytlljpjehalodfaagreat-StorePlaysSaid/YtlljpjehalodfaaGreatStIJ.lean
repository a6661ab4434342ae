/- slices.IndexFunc at strings (chapter 14). slices.DeleteFunc at strings (chapter 14). -/
import Derived.Test.YtlljpjehalodfaaGreatProg
import Derived.Test.YtlljpjehalodfaaGreatStBC
import Derived.Test.YtlljpjehalodfaaGreatIter

namespace Go.Proofs.YtlljpjehalodfaaGreat
open Go.RowKit
namespace St

/-- A function value that tells p of each thing and turns nothing, wherever what lay below base lies so. -/
def Tells (base : Nat) (w0 : World) (g : Nat) (lb : Array Value) {α : Type} (V : α → Value) (p : α → Bool) : Prop :=
  (∀ args w, (callFunc g args).run Tryz.prog w = .ok (.enter g args) w) ∧ ∀ W, Below base w0 W → ∀ x, Calls Tryz.prog g (#[V x] ++ lb) W fun e w' => e = .returned (.bool (p x)) ∧ w' = W
def idxF {α : Type} (p : α → Bool) (l : List α) : Int := match l.findIdx? p with | some i => (i : Int) | none => -1
def gA {α : Type} (l : List α) (z : α) (j : Nat) : α := l.getD j z
theorem gA_eq {α : Type} {l : List α} {z : α} {j : Nat} (h : j < l.length) : l[j] = gA l z j := by simp [gA, List.getD, List.getElem?_eq_getElem h]
theorem idxF_some {α : Type} {p : α → Bool} {l : List α} {z : α} {j : Nat} (h : j < l.length) (hp : p (gA l z j) = true) (hk : ∀ k, k < j → p (gA l z k) = false) : idxF p l = (j : Int) := by
  unfold idxF
  have : l.findIdx? p = some j := List.findIdx?_eq_some_iff_getElem.2 ⟨h, by rw [gA_eq (z := z) h]; exact hp, fun k hkj => by rw [gA_eq (z := z) (by omega : k < l.length), hk k hkj]; decide⟩
  rw [this]
theorem idxF_none {α : Type} {p : α → Bool} {l : List α} {z : α} (hk : ∀ k, k < l.length → p (gA l z k) = false) : idxF p l = -1 := by
  unfold idxF
  have : l.findIdx? p = none := List.findIdx?_eq_none_iff.2 fun x hx => by
    obtain ⟨k, hkl, rfl⟩ := List.getElem_of_mem hx
    rw [gA_eq (z := z) hkl, hk k hkl]
  rw [this]
set_option maxHeartbeats 1600000 in
theorem indexS_calls (w : World) {base B c g : Nat} {lb : Array Value} {A : Option Addr} {l : List ByteArray} {w0 : World} {p : ByteArray → Bool} (ht : Tells base w0 g lb Value.string p) (hw : Below base w0 w) (hr : Reads w B 1 A l.length (l.map Value.string)) (hn : l.length ≤ 1000000) :
    Calls Tryz.prog 58 #[.slice A l.length c, .func (.func g) #[] lb] w fun e w' => e = .returned (.int .i64 (idxF p l)) ∧ w' = w := by
  have HR := Lib.hid hr
  have HT := Lib.hid ht.2
  have eg := ht.1
  have HW := Lib.hid hw
  clear hr ht hw
  go_enter Tryz.func58, Tryz.ntmps58
  go_wp2
  go_loopw [8] (fun i wr => ∃ j : Nat, j ≤ l.length ∧ i = .int .i64 (j : Int) ∧ Hid (∀ k, k < j → p (gA l .empty k) = false) ∧ Hid (wr = w)) (fun i _ => l.length - (intOf i).toNat)
  case atStart => exact ⟨0, Nat.zero_le _, rfl, Lib.hid (fun k hk => absurd hk (Nat.not_lt_zero k)), Lib.hid rfl⟩
  case round =>
    obtain ⟨j, hj, rfl, HF, HE⟩ := hrel
    obtain rfl := HE.out
    by_cases hlt : j < l.length
    · obtain ⟨b, o, e, hb, hc⟩ := HR.out.2 (by omega)
      have x0 := hc j (.string (gA l .empty j)) (by rw [List.getElem?_map, List.getElem?_eq_getElem hlt, gA_eq (z := .empty) hlt]; rfl)
      have i0 : (0 : Int) ≤ (j : Int) := by omega
      have i9 : (j : Int) < (l.length : Int) := by omega
      have HS := Lib.hid fun (hp : p (gA l .empty j) = true) => idxF_some hlt hp HF.out
      have HN : Hid (p (gA l .empty j) = false → ∀ k, k < j + 1 → p (gA l .empty k) = false) := Lib.hid fun hp k hk => by
        by_cases e : k = j
        · rw [e]; exact hp
        · exact HF.out k (by omega)
      clear hc HF
      subst e
      generalize gA l .empty j = x at *
      go_wp2_with fail
      refine (HT.out wr HW.out x).mono ?_
      rintro e w' ⟨rfl, rfl⟩
      cases hp : p x with
      | true =>
        have e1 := Lib.hid (HS.out hp)
        go_wp2
        go_ret
        exact ⟨by rw [e1.out]; rfl, rfl⟩
      | false =>
        have HN2 := Lib.hid (HN.out hp)
        go_wp2
        go_roundw
        case rel => exact ⟨j + 1, by omega, by go_num, HN2, Lib.hid trivial⟩
        case measure => simp [intOf]; omega
    · obtain rfl : j = l.length := by omega
      have e1 := Lib.hid (idxF_none HF.out)
      go_wp2
      go_ret
      exact ⟨by rw [e1.out]; rfl, rfl⟩
end St
end Go.Proofs.YtlljpjehalodfaaGreat

namespace Go.Proofs.YtlljpjehalodfaaGreat
open Go.RowKit Go.Sort Go.Shelf Go.Lib
namespace St

theorem grown_row {α : Type} [Inhabited α] (enc : α → Value) {w : World} {g n off : Nat} {os : Array Obj} (d : Array α) : w.grownBy (grow (putRow enc (Sort.ahead w n) g off d) os) (some g) := by
  refine ⟨rfl, rfl, rfl, by simp, fun k hk hne => ?_⟩
  rw [heap_grow_old _ _ (by simpa using hk)]
  have : g ≠ k := fun e => hne (by rw [e])
  simp [putRow, mapBlock, Sort.ahead, Array.getElem?_modify, this]
theorem below_row {α : Type} [Inhabited α] (enc : α → Value) {w : World} {g n off base : Nat} {os : Array Obj} (d : Array α) (hb : base ≤ g) (hw : base ≤ w.heap.size) : Below base w (grow (putRow enc (Sort.ahead w n) g off d) os) :=
  (Below.refl base w).grown (grown_row enc d) hw fun k e => by injection e with e; omega
def keepF {α : Type} (p : α → Bool) (l : List α) : List α := l.filter fun x => !p x
set_option maxHeartbeats 1600000 in
theorem deleS_calls (w : World) {base c g : Nat} {lb : Array Value} {A : Option Addr} {l : List ByteArray} {w0 : World} {p : ByteArray → Bool} (ho : w.ownsRow base 9 1 (.slice A l.length c) l.length (l.map Value.string)) (ht : Tells base w0 g lb Value.string p) (hw : Below base w0 w) (hn : l.length ≤ 1000000) (hbase : base ≤ w.heap.size) :
    Calls Tryz.prog 42 #[.slice A l.length c, .func (.func g) #[] lb] w fun e w' => ∃ A', e = .returned (.slice A' (keepF p l).length c) ∧ (keepF p l).length ≤ c ∧ Reads w' w'.heap.size 1 A' (keepF p l).length ((keepF p l).map Value.string) ∧ Below base w w' := by
  rcases ho.2 with ⟨h0, hl⟩ | ⟨b, cap, cur, hv, hbb, hblk, hnc, hcm, hsz, htk⟩
  · obtain rfl : l = [] := List.eq_nil_of_length_eq_zero hl
    injection h0 with h0 _ hc0
    subst h0 hc0
    have hidx := indexS_calls (c := 0) (A := none) w ht hw (Reads.none_ (B := base)) (l := []) (by simp)
    go_enter Tryz.func42, Tryz.ntmps42
    go_wp2_with fail
    refine hidx.mono ?_
    rintro e w' ⟨rfl, rfl⟩
    have hx : idxF p ([] : List ByteArray) = -1 := rfl
    rw [hx]
    go_wp2
    go_ret
    exact ⟨none, rfl, Nat.le_refl _, Reads.none_, Below.refl _ _⟩
  · injection hv with hA _ hc
    subst hA hc
    have hR := Reads.of_own ho
    have hH : Holds Value.string w b 0 l.toArray := fun j hj => by
      have hj' : j < l.length := by simpa using hj
      refine ⟨?_, ?_⟩
      · rw [Nat.zero_add, ho.cellAt j (by omega), List.getElem?_map, List.getElem?_eq_getElem hj']
        simp [getElem!_pos, hj']
      · rw [Nat.zero_add]; exact ho.frozenAt j
    have hcon := AnyE.slices_DeleteFunc Tryz.dele42 Value.string (fun _ => rfl) p g lb ht.1 ByteArray.empty (fun w => by kernel_rfl) b 0 c l.toArray w
      (fun W x hb => (ht.2 W (hw.trans (hb.mono hbase)) x).mono fun e w' ⟨he, hw'⟩ => ⟨he, 0, hw'⟩)
      (fun n os dk x _ => (ht.2 _ (hw.trans (below_row Value.string dk hbb hbase)) x).mono fun e w' ⟨he, hw'⟩ => ⟨he, 0, hw'⟩)
      hH (by simp; omega) (by simpa using hnc)
    change Calls Tryz.prog 42 #[.slice (some ⟨b, 0, none⟩) l.length c, .func (.func g) #[] lb] w _ at hcon
    refine hcon.mono ?_
    rintro e w' ⟨rfl, q, rfl⟩
    have hle : (keepF p l).length ≤ l.length := List.length_filter_le _ _
    refine ⟨some ⟨b, 0, none⟩, rfl, by omega, ⟨by simp, fun hp => ⟨b, 0, rfl, ?_, fun j u hu => ?_⟩⟩, ?_⟩
    · have hb := (Array.getElem?_eq_some_iff.1 hblk).1
      simpa using hb
    · have hj : j < (keepF p l).length := by have := (List.getElem?_eq_some_iff.1 hu).1; simpa using this
      have h1 := cell?_putRow Value.string (Sort.ahead w q) b 0 l.toArray ((keepF p l) ++ List.replicate (l.length - (keepF p l).length) ByteArray.empty).toArray hH (by simp; omega) j (by simp; omega)
      rw [List.getElem?_map, List.getElem?_eq_getElem hj] at hu
      injection hu with hu
      subst hu
      refine h1.trans ?_
      rw [getElem!_pos _ j (by simp; omega)]
      simp [List.getElem_append_left hj]
    · have := below_row Value.string (w := w) (n := q) (off := 0) (os := #[]) ((keepF p l) ++ List.replicate (l.length - (keepF p l).length) ByteArray.empty).toArray hbb hbase
      rw [grow_empty] at this
      exact this
end St
end Go.Proofs.YtlljpjehalodfaaGreat
