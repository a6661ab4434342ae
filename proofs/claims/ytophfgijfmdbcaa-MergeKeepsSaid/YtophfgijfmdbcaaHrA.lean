/- The heap of heads of lists of rows: Push, Pop. -/
import Derived.Test.YtophfgijfmdbcaaProg
import Derived.Test.YtophfgijfmdbcaaHpN
import Derived.Test.YtophfgijfmdbcaaRwA
namespace Go.Proofs.Ytophfgijfmdbcaa.Hr
open Go.RowKit Go.Proofs.Ytophfgijfmdbcaa Go.Proofs.Ytophfgijfmdbcaa.So Go.Proofs.Ytophfgijfmdbcaa.Hp

/-- The first row of a list, and where the rest of it lies. -/
structure Hd where
  x : Rw
  rest : List Rw
  A : Option Addr
  cp : Nat
instance : Inhabited Hd := ⟨⟨default, [], none, 0⟩⟩
def cH (h : Hd) : List Value := [.int .i64 h.x.kind, .int .i64 h.x.time, .slice h.x.A h.x.labs.length h.x.cp, .string h.x.text, .int .i64 h.x.value, .bool h.x.null, .int .i64 h.x.maker, .int .i64 h.x.seq, .int .i64 h.x.place, .slice h.A h.rest.length h.cp]
def vH (h : Hd) : Value := .agg #[.int .i64 h.x.kind, .int .i64 h.x.time, .slice h.x.A h.x.labs.length h.x.cp, .string h.x.text, .int .i64 h.x.value, .bool h.x.null, .int .i64 h.x.maker, .int .i64 h.x.seq, .int .i64 h.x.place, .slice h.A h.rest.length h.cp]
def encH : Enc Hd := ⟨cH, 10, 86, vH⟩
theorem Try.infoHd : (Try.prog.info? 86).map (fun i => (i.zero, i.size, i.bytes)) = some (some (vH default), 10, 120) := by kernel_rfl
set_option maxRecDepth 100000 in
theorem okH : encH.Ok Try.prog where
  len _ := rfl
  one x v hv := by
    simp only [encH, cH, List.mem_cons, List.not_mem_nil, or_false] at hv
    rcases hv with rfl | rfl | rfl | rfl | rfl | rfl | rfl | rfl | rfl | rfl <;> rfl
  pos := by decide
  ld W g o x h := by
    have h0 := h 0 _ rfl
    have h1 := h 1 _ rfl
    have h2 := h 2 _ rfl
    have h3 := h 3 _ rfl
    have h4 := h 4 _ rfl
    have h5 := h 5 _ rfl
    have h6 := h 6 _ rfl
    have h7 := h 7 _ rfl
    have h8 := h 8 _ rfl
    have h9 := h 9 _ rfl
    simp only [Nat.add_zero] at h0
    simp [go_sem, encH, vH, h0, h1, h2, h3, h4, h5, h6, h7, h8, h9]
  st W g o x h := by
    obtain ⟨a0, b0⟩ := h 0 (by decide)
    obtain ⟨a1, b1⟩ := h 1 (by decide)
    obtain ⟨a2, b2⟩ := h 2 (by decide)
    obtain ⟨a3, b3⟩ := h 3 (by decide)
    obtain ⟨a4, b4⟩ := h 4 (by decide)
    obtain ⟨a5, b5⟩ := h 5 (by decide)
    obtain ⟨a6, b6⟩ := h 6 (by decide)
    obtain ⟨a7, b7⟩ := h 7 (by decide)
    obtain ⟨a8, b8⟩ := h 8 (by decide)
    obtain ⟨a9, b9⟩ := h 9 (by decide)
    simp only [Nat.add_zero] at a0 b0
    obtain ⟨u0, u0⟩ := Option.isSome_iff_exists.1 a0
    obtain ⟨u1, u1⟩ := Option.isSome_iff_exists.1 a1
    obtain ⟨u2, u2⟩ := Option.isSome_iff_exists.1 a2
    obtain ⟨u3, u3⟩ := Option.isSome_iff_exists.1 a3
    obtain ⟨u4, u4⟩ := Option.isSome_iff_exists.1 a4
    obtain ⟨u5, u5⟩ := Option.isSome_iff_exists.1 a5
    obtain ⟨u6, u6⟩ := Option.isSome_iff_exists.1 a6
    obtain ⟨u7, u7⟩ := Option.isSome_iff_exists.1 a7
    obtain ⟨u8, u8⟩ := Option.isSome_iff_exists.1 a8
    obtain ⟨u9, u9⟩ := Option.isSome_iff_exists.1 a9
    simp [go_sem, encH, vH, cH, u0, u1, u2, u3, u4, u5, u6, u7, u8, u9, b0, b1, b2, b3, b4, b5, b6, b7, b8, b9, World.setCells]
theorem idx_at (W : World) {g c n i : Nat} {x : Int} (hx : x = (i : Int)) (hi : i < n) : (Instr.indexAt 98 (.slice (some ⟨g, 0, none⟩) n c) (.int .i64 x)).run Try.prog W = .ok (.pointer (some ⟨g, i * encH.sz, none⟩)) W := by
  subst hx
  have h1 : (i : Int) < (n : Int) := by omega
  have e1 : encH.sz = 10 := rfl
  rw [e1]
  simp [go_sem, h1]
section
variable {P : Program}
theorem run_load {o : Oper} {b : Act} {W : World} (x : Operand) {t : TypeId} (ho : o.op = .load t x) {u r : Value} (hx : b.eval x = u) (hr : (Instr.loadAt t u).run P W = .ok r W) : (execOp b.eval o).run P W = .ok (.value r) W := Hp.run_load x ho hx hr
theorem run_store {o : Oper} {b : Act} {W W' : World} (x y : Operand) {t : TypeId} (ho : o.op = .store t x y) {u v : Value} (hx : b.eval x = u) (hy : b.eval y = v) (hr : (Instr.storeAt t u v).run P W = .ok () W') : (execOp b.eval o).run P W = .ok .skip W' := Hp.run_store x y ho hx hy hr
end
abbrev HI (w : World) (B gh : Nat) (fv : Value) (A : Option Addr) (c : Nat) (d : List Hd) : Prop := HeapAt encH 100 w B gh fv A c d
/-- What the order's function answers, wherever K holds. -/
structure Asks (K : World → Prop) (B0 : Nat) (gc : FuncId) (FR : Array Value) (lt : Hd → Hd → Bool) : Prop where
  keep : ∀ W W', K W → Below B0 W W' → K W'
  call : ∀ (x y : Hd) (W : World), K W → Calls Try.prog gc (#[vH x, vH y] ++ FR) W fun e W' => e = .returned (.bool (lt x y)) ∧ Below W.heap.size W W'
  enter : ∀ args W, (callFunc gc args).run Try.prog W = .ok (.enter gc args) W
/-- A heap behind a call: in order, of these things. -/
def HeapR (B gh : Nat) (fv : Value) (lt : Hd → Hd → Bool) (old : Option Nat) (n0 : Nat) (d : List Hd) (w' : World) : Prop := ∃ A c d', HI w' B gh fv A c d' ∧ Heap lt d' ∧ d'.Perm d ∧ (ownB A = old ∨ ∃ k, ownB A = some k ∧ n0 ≤ k)

set_option maxRecDepth 100000 in
theorem field0 (gh : Nat) (W : World) : (Instr.fieldAt 100 (.pointer (some ⟨gh, 0, none⟩)) 0).run Try.prog W = .ok (.pointer (some ⟨gh, 0, none⟩)) W := by simp [go_sem]
set_option maxRecDepth 100000 in
theorem field1 (gh : Nat) (W : World) : (Instr.fieldAt 100 (.pointer (some ⟨gh, 0, none⟩)) 1).run Try.prog W = .ok (.pointer (some ⟨gh, 1, none⟩)) W := by simp [go_sem]
theorem load_l (W : World) {gh : Nat} {A : Option Addr} {n c : Nat} (h : W.cell? ⟨gh, 0, none⟩ = some (.slice A n c)) : (Instr.loadAt 98 (.pointer (some ⟨gh, 0, none⟩))).run Try.prog W = .ok (.slice A n c) W := by simp [go_sem, h]
theorem load_f (W : World) {gh gc : Nat} {FR : Array Value} (h : W.cell? ⟨gh, 1, none⟩ = some (.func (.func gc) #[] FR)) : (Instr.loadAt 87 (.pointer (some ⟨gh, 1, none⟩))).run Try.prog W = .ok (.func (.func gc) #[] FR) W := by simp [go_sem, h]
end Go.Proofs.Ytophfgijfmdbcaa.Hr
