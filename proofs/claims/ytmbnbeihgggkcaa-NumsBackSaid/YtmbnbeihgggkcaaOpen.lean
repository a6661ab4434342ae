/- An argument of a statement, as the form hands it over; and how each kind of argument is opened. -/
import Derived.Test.YtmbnbeihgggkcaaMem
import Derived.ProofKit
import Derived.OpenShut
import Derived.ShutString
import Derived.SizedLaws
namespace Go.Proofs.Ytmbnbeihgggkcaa
open Go.ChangeShapes Go.WideShapes Go.ChangeAt Go.RowKit
open Go.ChangeMaps (open_string shut_string)

/-- What is known of one argument: it fits its type, it reads as data, all that the reading met is old memory, and each part of it is within the form's own reach. -/
structure Arg {H : Type} (enc : TypeId × Value → H) (P : Program) (W : World) (base : Nat) (t : TypeId) (v : Value) (d : DataW H) (p : List MemPlace) : Prop where
  ok : Value.okWide P W .any base t v
  trod : DataW.Trod enc P W 0 (fun _ => true) true t v d p
  lt : ∀ x ∈ p, x.block < W.heap.size
  sized : ∀ n ∈ d.weights P t, n ≤ reachBytes

theorem sized_each {H : Type} {P : Program} {ts : List TypeId} {ds : List (DataW H)} (h : (DataW.weightsEach P ts ds).all (· ≤ reachBytes) = true) {j : Nat} {t : TypeId} {d : DataW H} (ht : ts[j]? = some t) (hd : ds[j]? = some d) : ∀ n ∈ d.weights P t, n ≤ reachBytes := by
  intro n hn
  have := List.all_eq_true.1 h n (DataW.weights_mem_each ht hd n hn)
  simpa using this

section
variable {H : Type} {enc : TypeId × Value → H} {P : Program} {W : World} {base : Nat} {t e : TypeId} {k : IntKind} {v : Value} {d : DataW H} {p : List MemPlace}
theorem Arg.int (h : Arg enc P W base t v d p) (hU : P.underlying t = some (.int k)) : ∃ x : Int, v = .int k x ∧ d = .lit (.int k x) ∧ (Lit.int k x).wf = true := by
  obtain ⟨x, h1, h2, _, h4⟩ := open_int hU h.ok h.trod
  exact ⟨x, h1, h2, h4⟩
theorem Arg.bool (h : Arg enc P W base t v d p) (hU : P.underlying t = some .bool) : ∃ x : Bool, v = .bool x ∧ d = .lit (.bool x) := by
  obtain ⟨x, h1, h2, _⟩ := open_bool hU h.ok h.trod
  exact ⟨x, h1, h2⟩
theorem Arg.str (h : Arg enc P W base t v d p) (hU : P.underlying t = some .string) : ∃ s : ByteArray, v = .string s ∧ d = .lit (.string s.data.toList) ∧ s.size ≤ 140737488351232 := by
  obtain ⟨s, h1, h2, _, _⟩ := open_string hU h.ok h.trod
  refine ⟨s, h1, h2, ?_⟩
  have := h.sized s.data.toList.length (by subst h2; simp [DataW.weights])
  have e : s.data.toList.length = s.size := by rw [Array.length_toList]; rfl
  simp only [reachBytes] at this
  omega
theorem Arg.ints (h : Arg enc P W base t v d p) (hU : P.underlying t = some (.slice e)) (hE : P.underlying e = some (.int k)) (hC : P.cellsOf e = 1) :
    ∃ (A : Option Addr) (n c : Nat) (zs : List Int), v = .slice A n c ∧ zs.length = n ∧ n ≤ c ∧ c ≤ maxLen ∧ c * P.bytesOf e ≤ 140737488351232 ∧ Reads W W.heap.size 1 A n (zs.map (.int k)) ∧ (∀ z ∈ zs, (Lit.int k z).wf = true) := by
  obtain ⟨A, n, c, rfl⟩ := okWide_slice hU h.ok
  obtain ⟨fuel, hf⟩ := h.trod
  have hs := h.sized
  have hlt := h.lt
  rcases open_ints hU hE hC hf with ⟨hcs, _⟩ | ⟨x, l, c', zs, hcs, _, hl, hm, hz, hx, hcell, hwz⟩
  · simp [Value.cells] at hcs
    obtain ⟨rfl, rfl, rfl⟩ := hcs
    exact ⟨none, 0, 0, [], rfl, rfl, Nat.le_refl _, by simp [maxLen], by omega, Reads.none_, by simp⟩
  · simp [Value.cells] at hcs
    obtain ⟨rfl, rfl, rfl⟩ := hcs
    have hz : zs.length = c := by simpa using hz
    simp only [Prod.mk.injEq] at hx
    obtain ⟨rfl, rfl⟩ := hx
    have hr := hs (((lits (H := H) k (zs.take n)).length + (lits (H := H) k (zs.drop n)).length) * P.bytesOf e) (by simp [DataW.weights, hU])
    have hlen : (lits (H := H) k (zs.take n)).length + (lits (H := H) k (zs.drop n)).length = c := by simp [lits]; omega
    rw [hlen] at hr
    have hrow : (zs.map (Value.int k)).take n = (zs.take n).map (Value.int k) := by rw [List.map_take]
    refine ⟨some x, n, c, zs.take n, rfl, by rw [List.length_take]; omega, hl, hm, by simpa [reachBytes] using hr, ?_, fun z hz' => hwz z (List.mem_of_mem_take hz')⟩
    refine ⟨by rw [List.length_map, List.length_take]; omega, fun hn => ?_⟩
    obtain ⟨b, off, spot⟩ := x
    have hspot : spot = none := by simpa [Addr.add] using World.cell?_spot (hcell 0 (by omega))
    subst hspot
    refine ⟨b, off, rfl, ?_, fun j u hu => ?_⟩
    · have := World.block_lt_of_cell? W _ (hcell 0 (by omega))
      simpa [Addr.add] using this
    · rw [List.getElem?_map] at hu
      have hj : j < (zs.take n).length := by
        rcases Nat.lt_or_ge j (zs.take n).length with h | h
        · exact h
        · rw [List.getElem?_eq_none h] at hu; cases hu
      rw [List.getElem?_eq_getElem hj] at hu
      simp only [Option.map_some, Option.some.injEq] at hu
      subst hu
      have := hcell j (by rw [List.length_take] at hj; omega)
      rw [addr_add] at this
      rw [this]
      simp [List.getD, List.getElem?_eq_getElem (show j < zs.length by rw [List.length_take] at hj; omega)]
theorem Arg.bytes (h : Arg enc P W base t v d p) (hU : P.underlying t = some (.slice e)) (hE : P.underlying e = some (.int .u8)) (hC : P.cellsOf e = 1) (hB : P.bytesOf e = 1) :
    ∃ (A : Option Addr) (n c : Nat) (l : List UInt8), v = .slice A n c ∧ n ≤ c ∧ c ≤ 140737488351232 ∧ Bytes W W.heap.size A n l := by
  obtain ⟨A, n, c, zs, rfl, hz, hn, _, hr, hrd, hw⟩ := h.ints hU hE hC
  rw [hB, Nat.mul_one] at hr
  have e : zs.map (Value.int .u8) = (zs.map fun z => UInt8.ofNat z.toNat).map byteV := by
    rw [List.map_map]
    refine List.map_congr_left fun z hz' => ?_
    have h1 := hw z hz'
    have h2 : IntKind.u8.min = 0 := rfl
    have h3 : IntKind.u8.max = 255 := rfl
    simp only [Lit.wf, Bool.and_eq_true, decide_eq_true_eq, h2, h3] at h1
    simp only [Function.comp, byteV, Value.int.injEq, true_and]
    rw [UInt8.toNat_ofNat']
    omega
  rw [e] at hrd
  exact ⟨A, n, c, _, rfl, hn, hr, by simpa using hz, hrd⟩
theorem wf_u64 {x : Int} (h : (Lit.int .u64 x).wf = true) : ∃ n : Nat, x = (n : Int) ∧ n ≤ 18446744073709551615 := by
  have h2 : IntKind.u64.min = 0 := rfl
  have h3 : IntKind.u64.max = 18446744073709551615 := rfl
  simp only [Lit.wf, Bool.and_eq_true, decide_eq_true_eq, h2, h3] at h
  exact ⟨x.toNat, by omega, by omega⟩
theorem wf_i64 {x : Int} (h : (Lit.int .i64 x).wf = true) : -9223372036854775808 ≤ x ∧ x ≤ 9223372036854775807 := by
  have h2 : IntKind.i64.min = -9223372036854775808 := rfl
  have h3 : IntKind.i64.max = 9223372036854775807 := rfl
  simp only [Lit.wf, Bool.and_eq_true, decide_eq_true_eq, h2, h3] at h
  exact h
end
end Go.Proofs.Ytmbnbeihgggkcaa
