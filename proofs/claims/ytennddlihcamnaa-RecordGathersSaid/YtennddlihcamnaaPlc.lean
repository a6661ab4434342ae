/- A map's key that is a struct of a number and a text. -/
import Derived.Test.YtennddlihcamnaaMap
import Derived.DeepKeys4
namespace Go.Proofs.Ytennddlihcamnaa
set_option linter.unusedVariables false
set_option linter.unusedSimpArgs false
open Go.RowKit

/-- What the kernel sees of such a type. -/
structure PlaceK (P : Program) (k ti ts : TypeId) (fs : Array Field) : Prop where
  und : P.underlying k = some (.struct fs)
  fields : fs.toList.map (fun f => (f.type, f.offset, P.cellsOf f.type)) = [(ti, 0, 1), (ts, 1, 1)]
  named : fs.all (fun f => f.name != "_") = true
  cells : P.cellsOf k = 2
  int : P.underlying ti = some (.int .i64)
  str : P.underlying ts = some .string
  isKey : P.keyType k = true
  size : 1 ≤ P.types.size
  law : Go.Maps.Keyed P k
section
variable {P : Program} {k ti ts : TypeId} {fs : Array Field}
theorem PlaceK.two (h : PlaceK P k ti ts fs) : ∃ f0 f1, fs.toList = [f0, f1] ∧ f0.type = ti ∧ f0.offset = 0 ∧ f1.type = ts ∧ f1.offset = 1 ∧ P.cellsOf ti = 1 ∧ P.cellsOf ts = 1 := by
  have hf := h.fields
  generalize fs.toList = l at hf
  have hl := congrArg List.length hf
  rw [List.length_map] at hl
  obtain ⟨f0, f1, rfl⟩ : ∃ f0 f1, l = [f0, f1] := by
    rcases l with _ | ⟨f0, _ | ⟨f1, _ | ⟨f2, r⟩⟩⟩
    · cases hl
    · cases hl
    · exact ⟨f0, f1, rfl⟩
    · simp at hl
  simp only [List.map_cons, List.map_nil, List.cons.injEq, Prod.mk.injEq, and_true] at hf
  obtain ⟨⟨h1, h2, h3⟩, h4, h5, h6⟩ := hf
  exact ⟨f0, f1, rfl, h1, h2, h4, h5, by rw [← h1]; exact h3, by rw [← h4]; exact h6⟩
def litI : Value → Option (List Lit)
  | .int q n => if q = .i64 ∧ (Lit.int .i64 n).wf = true then some [.int .i64 n] else none
  | _ => none
def litS : Value → Option (List Lit)
  | .string s => if s.size ≤ maxLen then some [.string s.data.toList] else none
  | _ => none
theorem PlaceK.lits (h : PlaceK P k ti ts fs) (a b : Value) : P.keyLits (P.types.size + 1) k [a, b] = (litI a).bind fun x => (litS b).map fun y => x ++ y := by
  obtain ⟨f0, f1, hl, e1, e2, e3, e4, c1, c2⟩ := h.two
  obtain ⟨m, hm⟩ : ∃ m, P.types.size = m + 1 := ⟨P.types.size - 1, by have := h.size; omega⟩
  have hn := h.named
  have hcl := h.cells
  rw [hm]
  have i1 : P.keyLits (m + 1) ti [a] = litI a := by
    unfold Program.keyLits
    rw [h.int]
    cases a <;> rfl
  have i2 : P.keyLits (m + 1) ts [b] = litS b := by
    unfold Program.keyLits
    rw [h.str]
    cases b <;> rfl
  have i0 : P.keyLits (m + 1 + 1) k [a, b] = (fs.toList.mapM fun f => P.keyLits (m + 1) f.type (([a, b].drop f.offset).take (P.cellsOf f.type))).map List.flatten := by
    conv => lhs; unfold Program.keyLits
    rw [h.und]
    exact if_pos ⟨by rw [hcl]; rfl, hn⟩
  rw [i0, hl]
  simp only [List.mapM_cons, List.mapM_nil, e1, e2, e3, e4, c1, c2, List.drop_zero, List.take_succ_cons, List.take_zero, List.drop_succ_cons, i1, i2]
  cases litI a <;> cases litS b <;> simp
theorem PlaceK.key_ (h : PlaceK P k ti ts fs) {n : Int} {s : ByteArray} (hw : (Lit.int .i64 n).wf = true) (hs : s.size ≤ maxLen) : keyOf P k (.agg #[.int .i64 n, .string s]) = some (.string (keyBytes [.int .i64 n, .string s.data.toList])) := by
  unfold keyOf
  rw [h.und]
  have hf : (Value.agg #[.int .i64 n, .string s]).formed P k = true := by simp [Value.formed, h.und, h.cells]
  simp only [h.isKey, hf, Bool.and_self, if_true]
  show (P.keyLits (P.types.size + 1) k [.int .i64 n, .string s]).map _ = _
  rw [h.lits]
  have e1 : litI (.int .i64 n) = some [.int .i64 n] := if_pos ⟨rfl, hw⟩
  have e2 : litS (.string s) = some [.string s.data.toList] := if_pos hs
  rw [e1, e2]
  rfl
theorem PlaceK.inv_ (h : PlaceK P k ti ts fs) {v : Value} {l : Lit} (hv : keyOf P k v = some l) : ∃ n s, (Lit.int .i64 n).wf = true ∧ s.size ≤ maxLen ∧ v = .agg #[.int .i64 n, .string s] ∧ l = .string (keyBytes [.int .i64 n, .string s.data.toList]) := by
  have hv0 := hv
  unfold keyOf at hv
  rw [h.und] at hv
  simp only [h.isKey, Bool.true_and] at hv
  split at hv
  · rename_i hf
    cases v with
    | agg cs =>
      simp only [Value.formed, h.und, h.cells, beq_iff_eq] at hf
      obtain ⟨a, b, hcs⟩ : ∃ a b, cs = #[a, b] := by
        obtain ⟨l⟩ := cs
        match l, hf with
        | [a, b], _ => exact ⟨a, b, rfl⟩
      subst hcs
      have hL : P.keyLits (P.types.size + 1) k [a, b] = _ := h.lits a b
      have hv : (P.keyLits (P.types.size + 1) k [a, b]).map (fun ls => Lit.string (keyBytes ls)) = some l := hv
      rw [hL] at hv
      have k1 : ∀ x, litI a = some x → ∃ n, (Lit.int .i64 n).wf = true ∧ a = .int .i64 n ∧ x = [.int .i64 n] := fun x hx => by
        unfold litI at hx
        split at hx
        · split at hx
          · rename_i hh
            injection hx with hx
            exact ⟨_, hh.2, by rw [hh.1], hx.symm⟩
          · cases hx
        · cases hx
      have k2 : ∀ x, litS b = some x → ∃ s, s.size ≤ maxLen ∧ b = .string s ∧ x = [.string s.data.toList] := fun x hx => by
        unfold litS at hx
        split at hx
        · split at hx
          · rename_i hh
            injection hx with hx
            exact ⟨_, hh, rfl, hx.symm⟩
          · cases hx
        · cases hx
      cases ha : litI a with
      | none => rw [ha] at hv; cases hv
      | some x =>
        cases hb : litS b with
        | none => rw [ha, hb] at hv; cases hv
        | some y =>
          rw [ha, hb] at hv
          obtain ⟨n, hw, rfl, rfl⟩ := k1 x ha
          obtain ⟨s, hs, rfl, rfl⟩ := k2 y hb
          injection hv with hv
          exact ⟨n, s, hw, hs, rfl, hv.symm⟩
    | _ => simp [Value.formed, h.und] at hf
  · cases hv
/-- Keys: a number and a text that can lie in memory. -/
abbrev Place := {p : Int × ByteArray // (Lit.int .i64 p.1).wf = true ∧ p.2.size ≤ maxLen}
def placeT (h : PlaceK P k ti ts fs) : KeyT P k Place where
  ok _ := True
  val p := .agg #[.int .i64 p.1.1, .string p.1.2]
  lit p := .string (keyBytes [.int .i64 p.1.1, .string p.1.2.data.toList])
  lt p q := (Lit.string (keyBytes [.int .i64 p.1.1, .string p.1.2.data.toList])).before (.string (keyBytes [.int .i64 q.1.1, .string q.1.2.data.toList]))
  keyed := h.law
  key {x} _ := h.key_ x.2.1 x.2.2
  inv {v l} hv := by
    obtain ⟨n, s, hw, hs, e1, e2⟩ := h.inv_ hv
    exact ⟨⟨(n, s), hw, hs⟩, trivial, e1, e2⟩
  inj {x y} e := by
    have h1 := h.key_ x.2.1 x.2.2
    have h2 := h.key_ y.2.1 y.2.2
    rw [show (Lit.string (keyBytes [.int .i64 x.1.1, .string x.1.2.data.toList])) = .string (keyBytes [.int .i64 y.1.1, .string y.1.2.data.toList]) from e] at h1
    have h3 := h.law.inj h1 h2
    injection h3 with h3
    have h4 : [Value.int .i64 x.1.1, Value.string x.1.2] = [Value.int .i64 y.1.1, Value.string y.1.2] := congrArg Array.toList h3
    injection h4 with h4 h5
    injection h5 with h5 _
    injection h4 with _ h4
    injection h5 with h5
    exact Subtype.ext (Prod.ext h4 h5)
  isKey x := trivial
  before x y := rfl
end
end Go.Proofs.Ytennddlihcamnaa
