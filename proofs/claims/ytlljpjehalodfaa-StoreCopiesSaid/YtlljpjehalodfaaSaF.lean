/- All that a store tells, as a text (chapter 14). -/
import Derived.Test.YtlljpjehalodfaaProg
import Derived.Test.YtlljpjehalodfaaSaE
import Derived.Test.YtlljpjehalodfaaNumR
import Derived.Test.YtlljpjehalodfaaTailB
namespace Go.Proofs.Ytlljpjehalodfaa
open Go.RowKit
namespace St

def bz (l : Bs) : ByteArray := ⟨l.toArray⟩
def uN (n : Int) : Nat := (IntKind.u64.wrap n).toNat
def uB (n : Int) : ByteArray := bz (putU (uN n))
def partO (k : ByteArray) (o : PO) : ByteArray := ((((k ++ ⟨#[0]⟩) ++ uB o.ver) ++ uB o.born) ++ uB (o.d.length : Int)) ++ bz o.d
def dumpO (l : List (ByteArray × PO)) : ByteArray := l.foldl (fun t p => t ++ partO p.1 p.2) ⟨#[]⟩
def partU (id : Int) (u : PU) : ByteArray := ((⟨#[1]⟩ ++ u.key) ++ uB id) ++ uB (u.sum : Int)
def dumpU (t : ByteArray) (l : List (Int × PU)) : ByteArray := l.foldl (fun t p => t ++ partU p.1 p.2) t
def PS.dump (s : PS) : ByteArray := (dumpU (dumpO s.objs) s.ups ++ uB s.now) ++ uB s.all
theorem bz_size (l : Bs) : (bz l).size = l.length := by simp [bz, ByteArray.size]
theorem app_size (a b : ByteArray) : (a ++ b).size = a.size + b.size := ByteArray.size_append
theorem putU_ten {n : Nat} (h : n ≤ 18446744073709551615) : (putU n).length ≤ 10 := putU_len 9 n (by omega)
theorem right_size {s : ByteArray} (h : rightB s = true) : s.size ≤ 40 := by
  unfold rightB at h
  simp only [Bool.and_eq_true, decide_eq_true_eq] at h
  exact h.2.1
theorem wrap_in (n : Int) : 0 ≤ IntKind.u64.wrap n ∧ IntKind.u64.wrap n ≤ 18446744073709551615 := by rw [IntKind.wrap_u64]; omega
theorem uB_size (n : Int) : (uB n).size ≤ 10 := by
  unfold uB
  rw [bz_size]
  exact putU_ten (by have := wrap_in n; unfold uN; omega)
theorem putN_calls (w : World) (n : Int) :
    Calls Try.prog 34 #[.int .u64 (IntKind.u64.wrap n)] w fun e w' => ∃ A c, e = .returned (.slice A (putU (uN n)).length c) ∧ (∀ W, Below w'.heap.size w' W → (convert 28 9 (.slice A (putU (uN n)).length c)).run Try.prog W = .ok (.string (uB n)) W) ∧ Below w.heap.size w w' := by
  have hw := wrap_in n
  have e : IntKind.u64.wrap n = (uN n : Int) := by unfold uN; omega
  have hle : uN n ≤ 18446744073709551615 := by unfold uN; omega
  rw [e]
  refine (putURef_calls (uN n) w (putU_ten hle) hle).mono ?_
  intro en w' hr
  obtain ⟨A, c, rfl, _, _, hb, hbel, _⟩ := hr.opened
  refine ⟨A, c, rfl, fun W hW => ?_, hbel⟩
  exact (hb.to hW (Nat.le_refl _)).conv Try.prog c 28 5 9 Try.underlying28 Try.underlying5 Try.underlying9
end St
end Go.Proofs.Ytlljpjehalodfaa
