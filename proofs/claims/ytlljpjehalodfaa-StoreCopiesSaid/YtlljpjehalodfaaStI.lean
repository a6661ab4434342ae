/- slices.IndexFunc at strings (chapter 14). -/
import Derived.Test.YtlljpjehalodfaaProg
import Derived.Test.YtlljpjehalodfaaStA
namespace Go.Proofs.Ytlljpjehalodfaa
open Go.RowKit
namespace St

/-- A function value that tells p of each thing and turns nothing, wherever what lay below base lies so. -/
def Tells (base : Nat) (w0 : World) (g : Nat) (lb : Array Value) {α : Type} (V : α → Value) (p : α → Bool) : Prop :=
  (∀ args w, (callFunc g args).run Try.prog w = .ok (.enter g args) w) ∧ ∀ W, Below base w0 W → ∀ x, Calls Try.prog g (#[V x] ++ lb) W fun e w' => e = .returned (.bool (p x)) ∧ w' = W
def idxF {α : Type} (p : α → Bool) (l : List α) : Int := match l.findIdx? p with | some i => (i : Int) | none => -1
def gA {α : Type} (l : List α) (z : α) (j : Nat) : α := l.getD j z
theorem gA_eq {α : Type} {l : List α} {z : α} {j : Nat} (h : j < l.length) : l[j] = gA l z j := by simp [gA, List.getD, List.getElem?_eq_getElem h]
theorem idxF_some {α : Type} {p : α → Bool} {l : List α} {z : α} {j : Nat} (h : j < l.length) (hp : p (gA l z j) = true) (hk : ∀ k, k < j → p (gA l z k) = false) : idxF p l = (j : Int) := by
  unfold idxF
  have : l.findIdx? p = some j := List.findIdx?_eq_some_iff_getElem.2 ⟨h, by rw [gA_eq (z := z) h]; exact hp, fun k hkj => by rw [gA_eq (z := z) (by omega : k < l.length), hk k hkj]; decide⟩
  rw [this]
theorem idxF_none {α : Type} {p : α → Bool} {l : List α} {z : α} (hk : ∀ k, k < l.length → p (gA l z k) = false) : idxF p l = -1 := by
  unfold idxF
  have : l.findIdx? p = none := List.findIdx?_eq_none_iff.2 fun x hx => by
    obtain ⟨k, hkl, rfl⟩ := List.getElem_of_mem hx
    rw [gA_eq (z := z) hkl, hk k hkl]
  rw [this]
set_option maxHeartbeats 1600000 in
theorem indexS_calls (w : World) {base B c g : Nat} {lb : Array Value} {A : Option Addr} {l : List ByteArray} {w0 : World} {p : ByteArray → Bool} (ht : Tells base w0 g lb Value.string p) (hw : Below base w0 w) (hr : Reads w B 1 A l.length (l.map Value.string)) (hn : l.length ≤ 1000000) :
    Calls Try.prog 60 #[.slice A l.length c, .func (.func g) #[] lb] w fun e w' => e = .returned (.int .i64 (idxF p l)) ∧ w' = w := by
  have HR := Lib.hid hr
  have HT := Lib.hid ht.2
  have eg := ht.1
  have HW := Lib.hid hw
  clear hr ht hw
  go_enter Try.func60, Try.ntmps60
  go_wp2
  go_loopw [8] (fun i wr => ∃ j : Nat, j ≤ l.length ∧ i = .int .i64 (j : Int) ∧ Hid (∀ k, k < j → p (gA l .empty k) = false) ∧ Hid (wr = w)) (fun i _ => l.length - (intOf i).toNat)
  case atStart => exact ⟨0, Nat.zero_le _, rfl, Lib.hid (fun k hk => absurd hk (Nat.not_lt_zero k)), Lib.hid rfl⟩
  case round =>
    obtain ⟨j, hj, rfl, HF, HE⟩ := hrel
    obtain rfl := HE.out
    by_cases hlt : j < l.length
    · obtain ⟨b, o, e, hb, hc⟩ := HR.out.2 (by omega)
      have x0 := hc j (.string (gA l .empty j)) (by rw [List.getElem?_map, List.getElem?_eq_getElem hlt, gA_eq (z := .empty) hlt]; rfl)
      have i0 : (0 : Int) ≤ (j : Int) := by omega
      have i9 : (j : Int) < (l.length : Int) := by omega
      have HS := Lib.hid fun (hp : p (gA l .empty j) = true) => idxF_some hlt hp HF.out
      have HN : Hid (p (gA l .empty j) = false → ∀ k, k < j + 1 → p (gA l .empty k) = false) := Lib.hid fun hp k hk => by
        by_cases e : k = j
        · rw [e]; exact hp
        · exact HF.out k (by omega)
      clear hc HF
      subst e
      generalize gA l .empty j = x at *
      go_wp2_with fail
      refine (HT.out wr HW.out x).mono ?_
      rintro e w' ⟨rfl, rfl⟩
      cases hp : p x with
      | true =>
        have e1 := Lib.hid (HS.out hp)
        go_wp2
        go_ret
        exact ⟨by rw [e1.out]; rfl, rfl⟩
      | false =>
        have HN2 := Lib.hid (HN.out hp)
        go_wp2
        go_roundw
        case rel => exact ⟨j + 1, by omega, by go_num, HN2, Lib.hid trivial⟩
        case measure => simp [intOf]; omega
    · obtain rfl : j = l.length := by omega
      have e1 := Lib.hid (idxF_none HF.out)
      go_wp2
      go_ret
      exact ⟨by rw [e1.out]; rfl, rfl⟩
end St
end Go.Proofs.Ytlljpjehalodfaa
