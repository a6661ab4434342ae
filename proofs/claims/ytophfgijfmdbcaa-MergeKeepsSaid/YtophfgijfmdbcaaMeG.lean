/- Choose: the nil list; what it takes, as a fold. -/
import Derived.Test.YtophfgijfmdbcaaProg
import Derived.Test.YtophfgijfmdbcaaMeF
namespace Go.Proofs.Ytophfgijfmdbcaa
open Go.RowKit Go.Proofs.Ytophfgijfmdbcaa.So

set_option maxRecDepth 100000 in
theorem indexE_nil (w : World) (fv : Value) (c : Nat) :
    Calls Try.prog 44 #[.slice none 0 c, fv] w fun e w' => e = .returned (.int .i64 (-1)) ∧ Below w.heap.size w w' := by
  go_enter Try.func44, Try.ntmps44
  go_wp2
  go_loopw [8] (fun i wr => i = .int .i64 0 ∧ wr = w) (fun _ _ => 0)
  case atStart => exact ⟨rfl, rfl⟩
  case round =>
    obtain ⟨rfl, rfl⟩ := hrel
    go_wp2
    go_ret
    exact ⟨rfl, Below.refl _ _⟩
set_option maxRecDepth 100000 in
theorem deleteE_nil (w : World) (fv : Value) (c : Nat) :
    Calls Try.prog 27 #[.slice none 0 c, fv] w fun e w' => e = .returned (.slice none 0 c) ∧ Below w.heap.size w w' := by
  have HI := Lib.hid (indexE_nil w fv c)
  go_enter Try.func27, Try.ntmps27
  go_wp2_with fail
  refine HI.out.mono ?_
  rintro e w1 ⟨rfl, hb1⟩
  go_wp2
  go_ret
  exact ⟨rfl, hb1⟩
set_option maxRecDepth 100000 in
theorem insE_nil (w : World) (fv : Value) (c : Nat) :
    Calls Try.prog 55 #[.slice none 0 c, .int .i64 0, .int .i64 0, fv] w fun e w' => e = .returned (.tuple #[]) ∧ Below w.heap.size w w' := by
  go_enter Try.func55, Try.ntmps55
  go_wp2
  go_loopw [8] (fun i wr => i = .int .i64 1 ∧ wr = w) (fun _ _ => 0)
  case atStart => exact ⟨rfl, rfl⟩
  case round =>
    obtain ⟨rfl, rfl⟩ := hrel
    go_wp2
    go_end0
    exact ⟨rfl, Below.refl _ _⟩
set_option maxRecDepth 100000 in
theorem stableE_nil (w : World) (fv : Value) (c : Nat) :
    Calls Try.prog 45 #[.slice none 0 c, .int .i64 0, fv] w fun e w' => e = .returned (.tuple #[]) ∧ Below w.heap.size w w' := by
  have HI := Lib.hid (insE_nil w fv c)
  go_enter Try.func45, Try.ntmps45
  go_wp2
  go_loopw [7, 8] (fun a b wr => a = .int .i64 0 ∧ b = .int .i64 20 ∧ wr = w) (fun _ _ _ => 0)
  case atStart => exact ⟨rfl, rfl, rfl⟩
  case round =>
    obtain ⟨rfl, rfl, rfl⟩ := hrel
    go_wp2_with fail
    refine HI.out.mono ?_
    rintro e w1 ⟨rfl, hb1⟩
    go_wp2
    go_loopw [6] (fun a wx => a = .int .i64 20 ∧ wx = w1) (fun _ _ => 0)
    case atStart => exact ⟨rfl, rfl⟩
    case round =>
      obtain ⟨rfl, rfl⟩ := hrel
      go_wp2
      go_end0
      exact ⟨rfl, hb1⟩
set_option maxRecDepth 100000 in
theorem sortE_nil (w : World) (fv : Value) (c : Nat) :
    Calls Try.prog 30 #[.slice none 0 c, fv] w fun e w' => e = .returned (.tuple #[]) ∧ Below w.heap.size w w' := by
  have HI := Lib.hid (stableE_nil w fv c)
  go_enter Try.func30, Try.ntmps30
  go_wp2_with fail
  refine HI.out.mono ?_
  rintro e w1 ⟨rfl, hb1⟩
  go_wp2
  go_end0
  exact ⟨rfl, hb1⟩

/-- One step of taking: b is taken beside a if it is of the same window and part and there is room. -/
def stp (a : Ent) (q : Int × List ByteArray) (b : Ent) : Int × List ByteArray := if a.window = b.window ∧ a.part = b.part ∧ b.rows ≤ q.1 then (q.1 - b.rows, q.2 ++ [b.key]) else q
def took (a : Ent) (most : Int) (r : List Ent) : Int × List ByteArray := r.foldl (stp a) (most - a.rows, [a.key])
/-- What Choose takes of entries in order. -/
def pickE (most : Int) : List Ent → List ByteArray
  | [] => []
  | a :: r => if 1 < (took a most r).2.length ∧ 0 ≤ (took a most r).1 then (took a most r).2 else pickE most r
def chooseE (small most : Int) (l : List Ent) : List ByteArray := pickE most (isort (ltc cfE) (smalls small l))
end Go.Proofs.Ytophfgijfmdbcaa
