/- An argument of a statement, as the form hands it over; and how each kind of argument is opened. -/
import Derived.Test.YtibnehaibgbliaaGreatMem
import Derived.ProofKit
import Derived.OpenShut
import Derived.ShutString
import Derived.SizedLaws
import Derived.Deep.Slices
import Derived.Deep.Fields
namespace Go.Proofs.YtibnehaibgbliaaGreat
set_option linter.unusedVariables false
set_option linter.unusedSimpArgs false
open Go.ChangeShapes Go.WideShapes Go.ChangeAt Go.RowKit
open Go.ChangeMaps (open_string shut_string)
open Go.Deep (oneCellFields)

/-- What is known of one argument: it fits its type, it reads as data, all that the reading met is old memory, and each part of it is within the form's own reach. -/
structure Arg {H : Type} (enc : TypeId × Value → H) (P : Program) (W : World) (base : Nat) (t : TypeId) (v : Value) (d : DataW H) (p : List MemPlace) : Prop where
  ok : Value.okWide P W .any base t v
  trod : DataW.Trod enc P W 0 (fun _ => true) true t v d p
  lt : ∀ x ∈ p, x.block < W.heap.size
  sized : ∀ n ∈ d.weights P t, n ≤ reachBytes

theorem sized_each {H : Type} {P : Program} {ts : List TypeId} {ds : List (DataW H)} (h : (DataW.weightsEach P ts ds).all (· ≤ reachBytes) = true) {j : Nat} {t : TypeId} {d : DataW H} (ht : ts[j]? = some t) (hd : ds[j]? = some d) : ∀ n ∈ d.weights P t, n ≤ reachBytes := by
  intro n hn
  have := List.all_eq_true.1 h n (DataW.weights_mem_each ht hd n hn)
  simpa using this

section
variable {H : Type} {enc : TypeId × Value → H} {P : Program} {W : World} {base : Nat} {t e : TypeId} {k : IntKind} {v : Value} {d : DataW H} {p : List MemPlace}
theorem Arg.int (h : Arg enc P W base t v d p) (hU : P.underlying t = some (.int k)) : ∃ x : Int, v = .int k x ∧ d = .lit (.int k x) ∧ (Lit.int k x).wf = true := by
  obtain ⟨x, h1, h2, _, h4⟩ := open_int hU h.ok h.trod
  exact ⟨x, h1, h2, h4⟩
theorem Arg.bool (h : Arg enc P W base t v d p) (hU : P.underlying t = some .bool) : ∃ x : Bool, v = .bool x ∧ d = .lit (.bool x) := by
  obtain ⟨x, h1, h2, _⟩ := open_bool hU h.ok h.trod
  exact ⟨x, h1, h2⟩
theorem Arg.str (h : Arg enc P W base t v d p) (hU : P.underlying t = some .string) : ∃ s : ByteArray, v = .string s ∧ d = .lit (.string s.data.toList) ∧ s.size ≤ 140737488351232 := by
  obtain ⟨s, h1, h2, _, _⟩ := open_string hU h.ok h.trod
  refine ⟨s, h1, h2, ?_⟩
  have := h.sized s.data.toList.length (by subst h2; simp [DataW.weights])
  have e : s.data.toList.length = s.size := by rw [Array.length_toList]; rfl
  simp only [reachBytes] at this
  omega
theorem Arg.ints (h : Arg enc P W base t v d p) (hU : P.underlying t = some (.slice e)) (hE : P.underlying e = some (.int k)) (hC : P.cellsOf e = 1) :
    ∃ (A : Option Addr) (n c : Nat) (zs : List Int), v = .slice A n c ∧ zs.length = n ∧ n ≤ c ∧ c ≤ maxLen ∧ c * P.bytesOf e ≤ 140737488351232 ∧ Reads W W.heap.size 1 A n (zs.map (.int k)) ∧ (∀ z ∈ zs, (Lit.int k z).wf = true) := by
  obtain ⟨A, n, c, rfl⟩ := okWide_slice hU h.ok
  obtain ⟨fuel, hf⟩ := h.trod
  have hs := h.sized
  have hlt := h.lt
  rcases open_ints hU hE hC hf with ⟨hcs, _⟩ | ⟨x, l, c', zs, hcs, _, hl, hm, hz, hx, hcell, hwz⟩
  · simp [Value.cells] at hcs
    obtain ⟨rfl, rfl, rfl⟩ := hcs
    exact ⟨none, 0, 0, [], rfl, rfl, Nat.le_refl _, by simp [maxLen], by omega, Reads.none_, by simp⟩
  · simp [Value.cells] at hcs
    obtain ⟨rfl, rfl, rfl⟩ := hcs
    have hz : zs.length = c := by simpa using hz
    simp only [Prod.mk.injEq] at hx
    obtain ⟨rfl, rfl⟩ := hx
    have hr := hs (((lits (H := H) k (zs.take n)).length + (lits (H := H) k (zs.drop n)).length) * P.bytesOf e) (by simp [DataW.weights, hU])
    have hlen : (lits (H := H) k (zs.take n)).length + (lits (H := H) k (zs.drop n)).length = c := by simp [lits]; omega
    rw [hlen] at hr
    have hrow : (zs.map (Value.int k)).take n = (zs.take n).map (Value.int k) := by rw [List.map_take]
    refine ⟨some x, n, c, zs.take n, rfl, by rw [List.length_take]; omega, hl, hm, by simpa [reachBytes] using hr, ?_, fun z hz' => hwz z (List.mem_of_mem_take hz')⟩
    refine ⟨by rw [List.length_map, List.length_take]; omega, fun hn => ?_⟩
    obtain ⟨b, off, spot⟩ := x
    have hspot : spot = none := by simpa [Addr.add] using World.cell?_spot (hcell 0 (by omega))
    subst hspot
    refine ⟨b, off, rfl, ?_, fun j u hu => ?_⟩
    · have := World.block_lt_of_cell? W _ (hcell 0 (by omega))
      simpa [Addr.add] using this
    · rw [List.getElem?_map] at hu
      have hj : j < (zs.take n).length := by
        rcases Nat.lt_or_ge j (zs.take n).length with h | h
        · exact h
        · rw [List.getElem?_eq_none h] at hu; cases hu
      rw [List.getElem?_eq_getElem hj] at hu
      simp only [Option.map_some, Option.some.injEq] at hu
      subst hu
      have := hcell j (by rw [List.length_take] at hj; omega)
      rw [addr_add] at this
      rw [this]
      simp [List.getD, List.getElem?_eq_getElem (show j < zs.length by rw [List.length_take] at hj; omega)]
theorem Arg.bytes (h : Arg enc P W base t v d p) (hU : P.underlying t = some (.slice e)) (hE : P.underlying e = some (.int .u8)) (hC : P.cellsOf e = 1) (hB : P.bytesOf e = 1) :
    ∃ (A : Option Addr) (n c : Nat) (l : List UInt8), v = .slice A n c ∧ n ≤ c ∧ c ≤ 140737488351232 ∧ Bytes W W.heap.size A n l := by
  obtain ⟨A, n, c, zs, rfl, hz, hn, _, hr, hrd, hw⟩ := h.ints hU hE hC
  rw [hB, Nat.mul_one] at hr
  have e : zs.map (Value.int .u8) = (zs.map fun z => UInt8.ofNat z.toNat).map byteV := by
    rw [List.map_map]
    refine List.map_congr_left fun z hz' => ?_
    have h1 := hw z hz'
    have h2 : IntKind.u8.min = 0 := rfl
    have h3 : IntKind.u8.max = 255 := rfl
    simp only [Lit.wf, Bool.and_eq_true, decide_eq_true_eq, h2, h3] at h1
    simp only [Function.comp, byteV, Value.int.injEq, true_and]
    rw [UInt8.toNat_ofNat']
    omega
  rw [e] at hrd
  exact ⟨A, n, c, _, rfl, hn, hr, by simpa using hz, hrd⟩
theorem wf_u64 {x : Int} (h : (Lit.int .u64 x).wf = true) : ∃ n : Nat, x = (n : Int) ∧ n ≤ 18446744073709551615 := by
  have h2 : IntKind.u64.min = 0 := rfl
  have h3 : IntKind.u64.max = 18446744073709551615 := rfl
  simp only [Lit.wf, Bool.and_eq_true, decide_eq_true_eq, h2, h3] at h
  exact ⟨x.toNat, by omega, by omega⟩
theorem wf_i64 {x : Int} (h : (Lit.int .i64 x).wf = true) : -9223372036854775808 ≤ x ∧ x ≤ 9223372036854775807 := by
  have h2 : IntKind.i64.min = -9223372036854775808 := rfl
  have h3 : IntKind.i64.max = 9223372036854775807 := rfl
  simp only [Lit.wf, Bool.and_eq_true, decide_eq_true_eq, h2, h3] at h
  exact h
end

/-- A list out of what is there at each place. -/
theorem choose_list {α : Type} {p : Nat → α → Prop} (n : Nat) (h : ∀ i, i < n → ∃ x, p i x) : ∃ l : List α, l.length = n ∧ ∀ i (hi : i < l.length), p i l[i] := by
  induction n with
  | zero => exact ⟨[], rfl, fun i hi => absurd hi (by simp)⟩
  | succ n ih =>
    obtain ⟨l, hl, hp⟩ := ih fun i hi => h i (by omega)
    obtain ⟨x, hx⟩ := h n (by omega)
    refine ⟨l ++ [x], by simp [hl], fun i hi => ?_⟩
    rcases Nat.lt_or_ge i l.length with h1 | h1
    · rw [List.getElem_append_left h1]; exact hp i h1
    · have : i = l.length := by simp at hi; omega
      subst this
      rw [List.getElem_append_right (Nat.le_refl _)]
      simpa [hl] using hx

section
variable {H : Type} {enc : TypeId × Value → H} {P : Program} {W : World} {base : Nat} {t e : TypeId} {v : Value} {d : DataW H} {p : List MemPlace}
/-- A slice of structs whose fields have one cell each: every field of every element has its cell, and reads by itself. -/
theorem Arg.structs {fs : Array Field} (h : Arg enc P W base t v d p) (hU : P.underlying t = some (.slice e)) (hE : P.underlying e = some (.struct fs)) (hone : oneCellFields P fs = true) (hC : P.cellsOf e = fs.size) (hpos : 0 < fs.size) :
    ∃ (A : Option Addr) (n c : Nat) (D : List (List (DataW H × List MemPlace))), v = .slice A n c ∧ D.length = n ∧ n ≤ c ∧ c ≤ maxLen ∧ c * P.bytesOf e ≤ 140737488351232 ∧
      (0 < n → ∃ b off, A = some ⟨b, off, none⟩ ∧ b < W.heap.size ∧ ∀ i (hi : i < D.length), D[i].length = fs.size ∧ ∃ m, ∀ j f, fs[j]? = some f → ∃ u y, W.cell? ⟨b, off + (i * fs.size + j), none⟩ = some u ∧ D[i][j]? = some y ∧
        DataW.trod enc P W 0 (fun _ => true) true m f.type [u] = some y) ∧
      (n = 0 ∨ ∃ spare, d = .slice (D.map fun ys => .agg (ys.map (·.1))) spare) := by
  obtain ⟨A, n, c, rfl⟩ := okWide_slice hU h.ok
  obtain ⟨fuel, hf⟩ := h.trod
  have hs := h.sized
  rcases Go.Deep.open_slice hU hf with ⟨hcs, _⟩ | ⟨x, l, c', m, nf, Dd, Pl, hcs, _, hl, hm, hmm, hx, hi⟩
  · simp [Value.cells] at hcs
    obtain ⟨rfl, rfl, rfl⟩ := hcs
    exact ⟨none, 0, 0, [], rfl, rfl, Nat.le_refl _, by simp [maxLen], by omega, fun h => absurd h (by omega), .inl rfl⟩
  · simp [Value.cells] at hcs
    obtain ⟨rfl, rfl, rfl⟩ := hcs
    have hmm : m = c := by simpa using hmm
    subst hmm
    simp only [Prod.mk.injEq] at hx
    obtain ⟨rfl, rfl⟩ := hx
    have hr := hs (((List.range n).map Dd).length * P.bytesOf e + ((List.range (m - n)).map fun j => Dd (n + j)).length * P.bytesOf e) (by simp [DataW.weights, hU, Nat.add_mul])
    simp only [List.length_map, List.length_range] at hr
    rw [← Nat.add_mul] at hr
    have hcn : n + (m - n) = m := by omega
    rw [hcn] at hr
    have key : ∀ i, i < n → ∃ ys : List (DataW H × List MemPlace), Dd i = .agg (ys.map (·.1)) ∧ ys.length = fs.size ∧ ∃ k, ∀ j f, fs[j]? = some f → ∃ u y, W.cell? (x.add (i * fs.size + j)) = some u ∧ ys[j]? = some y ∧
        DataW.trod enc P W 0 (fun _ => true) true k f.type [u] = some y := fun i hin => by
      obtain ⟨cs', hc, ht'⟩ := hi i (by omega)
      rw [hC] at hc
      obtain ⟨ys, n', hn', hy, hlen, hyl, hfd⟩ := DataW.trod_struct hE ht'
      obtain ⟨_, hcl, hat⟩ := World.cells?_some hc
      simp only [Prod.mk.injEq] at hy
      refine ⟨ys, hy.1, hyl, n', fun j f hj => ?_⟩
      obtain ⟨ho, hk⟩ := Go.Deep.hone_of hone j f hj
      have hjl : j < fs.size := (Array.getElem?_eq_some_iff.1 hj).1
      have hcell := hat j hjl
      have hv : cs'[j]? = some (cs'[j]'(by omega)) := List.getElem?_eq_getElem (by omega)
      have h1 := hfd j f hj
      rw [ho, hk] at h1
      have hone' : (cs'.drop j).take 1 = [cs'[j]'(by omega)] := by
        rw [List.drop_eq_getElem_cons (by omega)]
        rfl
      rw [hone'] at h1
      have hys : ys[j]? = some (ys[j]'(by omega)) := List.getElem?_eq_getElem (by omega)
      refine ⟨_, _, ?_, hys, h1.trans hys⟩
      rw [← Go.Deep.add_add, hcell, hv]
    obtain ⟨D, hD, hp⟩ := choose_list n key
    have hdm : (List.range n).map Dd = D.map fun ys => .agg (ys.map (·.1)) := by
      refine List.ext_getElem (by simp [hD]) fun i h1 h2 => ?_
      simp only [List.getElem_map, List.getElem_range]
      exact (hp i (by simpa using h2)).1
    refine ⟨some x, n, m, D, rfl, hD, hl, hm, by simpa [reachBytes] using hr, fun hn => ?_, .inr ⟨_, by rw [hdm]⟩⟩
    obtain ⟨b, off, spot⟩ := x
    have h0 := hp 0 (by omega)
    obtain ⟨_, _, k0, h0⟩ := h0
    obtain ⟨f0, hf0⟩ : ∃ f, fs[0]? = some f := ⟨fs[0], Array.getElem?_eq_getElem hpos⟩
    obtain ⟨u0, _, hc0, _⟩ := h0 0 f0 hf0
    have hspot : spot = none := by simpa [Addr.add] using World.cell?_spot hc0
    subst hspot
    refine ⟨b, off, rfl, ?_, fun i hi' => ?_⟩
    · have := World.block_lt_of_cell? W _ hc0
      simpa [Addr.add] using this
    · obtain ⟨_, h2, k, h3⟩ := hp i hi'
      refine ⟨h2, k, fun j f hj => ?_⟩
      obtain ⟨u, y, h4, h5, h6⟩ := h3 j f hj
      rw [addr_add] at h4
      exact ⟨u, y, h4, h5, h6⟩
end
end Go.Proofs.YtibnehaibgbliaaGreat
