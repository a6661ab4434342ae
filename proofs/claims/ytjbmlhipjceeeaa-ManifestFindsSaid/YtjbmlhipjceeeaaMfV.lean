/- The keys of entries in a map, sorted (slices.Sorted at maps.Keys). -/
import Derived.Test.YtjbmlhipjceeeaaProg
import Derived.Test.YtjbmlhipjceeeaaMfP
import Derived.Sort.KeysCollected
import Derived.Test.YtjbmlhipjceeeaaIter
namespace Go.Proofs.Ytjbmlhipjceeeaa
open Go.RowKit Go.Sort Go.Shelf
namespace Mf

theorem sorts_ (m : Nat) : AnyZ.SortsIn Try.prog Try.sorted21_ren Fence.wide m :=
  ⟨fun blk off cap ss W hH hblk hsz => callsIn_wide.2 (AnyM.slices_Sort_string Try.sort44 blk off cap ss W hH hblk hsz),
   fun p cap W => callsIn_wide.2 (AnyM.slices_Sort_string_none Try.sort44 p cap W)⟩
theorem keys_fn (mb : Option Nat) (W : World) : Calls Try.prog 22 #[.map mb] W fun e w' => e = .returned (.func (.func 45) #[] #[.pointer (some ⟨W.heap.size, 0, none⟩)]) ∧ w' = W.alloc (.cells #[.map mb] 52) :=
  (callsIn_wide (n := 5)).1 (AnyZ.keys_in Try.keys22 Fence.wide 5 trivial rfl mb W)
set_option maxHeartbeats 1000000 in
theorem sorted_fn {H : Type} (b nn : Nat) (D0 : DataW H) (R : Value → Option (DataW H × List MemPlace)) (w : World) (hown : w.ownsMap Try.prog 9 R b nn D0) (hmax : Go.Maps.size D0 ≤ maxLen) (hbytes : Go.Maps.size D0 * 16 ≤ 140737488355328) :
    Calls Try.prog 21 #[.func (.func 45) #[] #[.pointer (some ⟨w.heap.size, 0, none⟩)]] (w.alloc (.cells #[.map (some b)] 52)) fun e w' => ∃ (v : Value) (ss : List (List UInt8)), e = .returned v ∧ ss.Perm (strKeys D0) ∧
      w'.ownsRow (w.alloc (.cells #[.map (some b)] 52)).heap.size 9 1 v ss.length ((ss.mergeSort (fun x y => decide (x ≤ y))).map encStr) ∧ (v = .slice none 0 0 ↔ ss = []) ∧ Below (w.alloc (.cells #[.map (some b)] 52)).heap.size (w.alloc (.cells #[.map (some b)] 52)) w' := by
  have hbl := hown.lt
  have hseq : SeqGives Fence.wide 2 Try.prog 45 #[.pointer (some ⟨w.heap.size, 0, none⟩)] encStr (fun ss => ss.Perm (strKeys D0)) (Go.Maps.size D0) (w.alloc (.cells #[.map (some b)] 52)) :=
    AnyZ.keys_gives (ρ := Try.keys22_ren) { Try.keys22 with } Fence.wide _ trivial rfl (by omega) w.heap.size b nn D0 _ (by simp) (by simp) (by
      obtain ⟨es, clock, hb, Ft, hs, hD⟩ := hown
      exact ⟨es, clock, (Below.heap_alloc _ _ b hbl).trans hb, Ft, hs, hD⟩)
  exact (callsIn_wide (n := 5)).1 (AnyZ.sorted_in Try.sorted21 Fence.wide 5 trivial trivial trivial trivial rfl (by omega) (sorts_ _) (enters_of Try.func44 (by kernel_rfl) rfl) 45 #[.pointer (some ⟨w.heap.size, 0, none⟩)] trivial (enters_of Try.func45 (by kernel_rfl) rfl) _ _ hmax hbytes _ hseq)
end Mf
end Go.Proofs.Ytjbmlhipjceeeaa
