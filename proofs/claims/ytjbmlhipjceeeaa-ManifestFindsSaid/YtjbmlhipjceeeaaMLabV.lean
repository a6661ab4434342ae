/- Labels (chapter 8): the reference's Byte, Value, Text; Same, Twin; the law's few and lives. -/
import Derived.Test.YtjbmlhipjceeeaaMLabU
namespace Go.Proofs.Ytjbmlhipjceeeaa.Lb
open Go.RowKit

theorem conv_new (w : World) (m : List UInt8) (cs : Array Value) (n c : Nat) (hcs : cs.toList = m.map byteV) (hn : m.length = n) :
    (convert 117 9 (.slice (some ⟨w.heap.size, 0, none⟩) n c)).run Try.prog (w.alloc (.cells cs 5)) = .ok (.string ⟨m.toArray⟩) (w.alloc (.cells cs 5)) := by
  have hb : Bytes (w.alloc (.cells cs 5)) (w.alloc (.cells cs 5)).heap.size (some ⟨w.heap.size, 0, none⟩) n m := ⟨hn, blk_reads (Blk.new w _ cs) hcs hn⟩
  exact hb.conv Try.prog c 117 5 9 Try.underlying117 Try.underlying5 Try.underlying9

theorem conv_drew (w : World) (m : List UInt8) (cs : Array Value) (n c : Nat) (hcs : cs.toList = m.map byteV) (hn : m.length = n) :
    (convert 117 9 (.slice (some ⟨w.heap.size, 0, none⟩) n c)).run Try.prog (w.alloc (.cells cs 5)).drew = .ok (.string ⟨m.toArray⟩) (w.alloc (.cells cs 5)).drew := by
  have hb : Bytes (w.alloc (.cells cs 5)).drew (w.alloc (.cells cs 5)).heap.size (some ⟨w.heap.size, 0, none⟩) n m := Bytes.drew ⟨hn, blk_reads (Blk.new w _ cs) hcs hn⟩
  exact hb.conv Try.prog c 117 5 9 Try.underlying117 Try.underlying5 Try.underlying9


theorem app_str (a b : List UInt8) : (⟨a.toArray⟩ : ByteArray) ++ ⟨b.toArray⟩ = ⟨(a ++ b).toArray⟩ := by
  apply ByteArray.ext
  apply Array.toList_inj.1
  simp
theorem mk_size (a : List UInt8) : (⟨a.toArray⟩ : ByteArray).size = a.length := by simp [ByteArray.size]


set_option maxRecDepth 100000 in
set_option maxHeartbeats 1600000 in
theorem run_add2 {P : Program} {a b : ByteArray} (W : World) {n : Nat} (h : a.size ≤ n) (hb : b.size ≤ 1000 ∧ n ≤ 1000) : (Op.stringOp .add a b).run P W = .ok (.string (a ++ b)) W :=
  run_string_add_sum W a b (by omega)

theorem run_add1 {P : Program} {a : ByteArray} {c : UInt8} (W : World) {n : Nat} (h : a.size ≤ n) (hn : n ≤ 1000 := by decide) : (Op.stringOp .add a (⟨#[c]⟩ : ByteArray)).run P W = .ok (.string (a ++ (⟨#[c]⟩ : ByteArray))) W :=
  run_add2 W h ⟨by show 1 ≤ 1000; decide, hn⟩


end Go.Proofs.Ytjbmlhipjceeeaa.Lb
