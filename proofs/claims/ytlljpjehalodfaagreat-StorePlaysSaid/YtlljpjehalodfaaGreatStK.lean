/- The keys of a store's objects and uploads, sorted (chapter 14). -/
import Derived.Test.YtlljpjehalodfaaGreatProg
import Derived.Test.YtlljpjehalodfaaGreatStBC
import Derived.Test.YtlljpjehalodfaaGreatIter
namespace Go.Proofs.YtlljpjehalodfaaGreat
open Go.RowKit Go.Sort Go.Shelf
namespace St

theorem intKeys_enc {P : Program} {k : TypeId} {β : Type} (hk : P.underlying k = some (.int .i64)) (ev : β → Value) (l : List (Int × β)) : intKeys (.map (l.map (encE (intT hk) ev))) = l.map fun p => p.1 := by
  show (l.map _).map _ = _
  rw [List.map_map]; rfl
theorem sorted_ints {P : Program} {k : TypeId} {β : Type} {hk : P.underlying k = some (.int .i64)} {ev : β → Value} {l : List (Int × β)} (hs : l.Pairwise fun p q => p.1 < q.1) {ss : List Int} (h : ss.Perm (intKeys (.map (l.map (encE (intT hk) ev))))) :
    (ss.mergeSort fun x y => decide (x ≤ y)).map encZ = l.map (fun p => Value.int .i64 p.1) ∧ ss.length = l.length := by
  rw [intKeys_enc] at h
  refine ⟨?_, by rw [h.length_eq, List.length_map]⟩
  have e1 : (ss.mergeSort fun x y => decide (x ≤ y)).Perm (l.map fun p => p.1) := (List.mergeSort_perm _ _).trans h
  have e2 : (ss.mergeSort fun x y => decide (x ≤ y)).Pairwise fun x y => x ≤ y := by
    have := List.pairwise_mergeSort (le := fun x y : Int => decide (x ≤ y)) (fun a b c h1 h2 => by simp at *; omega) (fun a b => by simp; omega) ss
    exact this.imp fun h => by simpa using h
  have e3 : (l.map fun p => p.1).Pairwise fun x y => x ≤ y := by
    rw [List.pairwise_map]; exact hs.imp fun h => Int.le_of_lt h
  have e : ss.mergeSort (fun x y => decide (x ≤ y)) = l.map fun p => p.1 := e1.eq_of_pairwise (fun a b _ _ h1 h2 => by omega) e2 e3
  rw [e, List.map_map]; rfl

theorem sortsS (m : Nat) : AnyZ.SortsIn Tryz.prog Tryz.sorted52_ren Fence.wide m :=
  ⟨fun blk off cap ss W hH hblk hsz => callsIn_wide.2 (AnyM.slices_Sort_string Tryz.sort62 blk off cap ss W hH hblk hsz),
   fun p cap W => callsIn_wide.2 (AnyM.slices_Sort_string_none Tryz.sort62 p cap W)⟩
theorem keysS_fn (mb : Option Nat) (W : World) : Calls Tryz.prog 53 #[.map mb] W fun e w' => e = .returned (.func (.func 63) #[] #[.pointer (some ⟨W.heap.size, 0, none⟩)]) ∧ w' = W.alloc (.cells #[.map mb] 48) :=
  (callsIn_wide (n := 5)).1 (AnyZ.keys_in Tryz.keys53 Fence.wide 5 trivial rfl mb W)
set_option maxHeartbeats 1000000 in
theorem sortedS_fn {H : Type} (b nn : Nat) (D0 : DataW H) (R : Value → Option (DataW H × List MemPlace)) (w : World) (hown : w.ownsMap Tryz.prog 9 R b nn D0) (hmax : Go.Maps.size D0 ≤ maxLen) (hbytes : Go.Maps.size D0 * 16 ≤ 140737488355328) :
    Calls Tryz.prog 52 #[.func (.func 63) #[] #[.pointer (some ⟨w.heap.size, 0, none⟩)]] (w.alloc (.cells #[.map (some b)] 48)) fun e w' => ∃ (v : Value) (ss : List (List UInt8)), e = .returned v ∧ ss.Perm (strKeys D0) ∧
      w'.ownsRow (w.alloc (.cells #[.map (some b)] 48)).heap.size 9 1 v ss.length ((ss.mergeSort (fun x y => decide (x ≤ y))).map encStr) ∧ (v = .slice none 0 0 ↔ ss = []) ∧ Below (w.alloc (.cells #[.map (some b)] 48)).heap.size (w.alloc (.cells #[.map (some b)] 48)) w' := by
  have hbl := hown.lt
  have hseq : SeqGives Fence.wide 2 Tryz.prog 63 #[.pointer (some ⟨w.heap.size, 0, none⟩)] encStr (fun ss => ss.Perm (strKeys D0)) (Go.Maps.size D0) (w.alloc (.cells #[.map (some b)] 48)) :=
    AnyZ.keys_gives (ρ := Tryz.keys53_ren) { Tryz.keys53 with } Fence.wide _ trivial rfl (by omega) w.heap.size b nn D0 _ (by simp) (by simp) (by
      obtain ⟨es, clock, hb, Ft, hs, hD⟩ := hown
      exact ⟨es, clock, (Below.heap_alloc _ _ b hbl).trans hb, Ft, hs, hD⟩)
  exact (callsIn_wide (n := 5)).1 (AnyZ.sorted_in Tryz.sorted52 Fence.wide 5 trivial trivial trivial trivial rfl (by omega) (sortsS _) (enters_of Tryz.func62 (by kernel_rfl) rfl) 63 #[.pointer (some ⟨w.heap.size, 0, none⟩)] trivial (enters_of Tryz.func63 (by kernel_rfl) rfl) _ _ hmax hbytes _ hseq)
theorem keys_calls (w : World) {L : LS} (h : At w L) (hn : L.objs.length ≤ 1000000) :
    Calls Tryz.prog 34 #[.pointer (some ⟨L.gs, 0, none⟩)] w fun e w' => ∃ A c, e = .returned (.slice A L.objs.length c) ∧ w'.ownsRow w.heap.size 9 1 (.slice A L.objs.length c) L.objs.length (L.objs.map fun p => .string p.1) ∧ Below w.heap.size w w' := by
  have c0 := h.c_bo
  have hsize : Go.Maps.size (DataW.map (L.objs.map (encE kS evO))) = L.objs.length := by rw [Go.Maps.size_eq, List.length_map]
  have HSF := Lib.hid (sortedS_fn L.bo L.objs.length _ rawR w h.mo.own (by rw [hsize]; unfold maxLen; omega) (by rw [hsize]; omega))
  have HSK := Lib.hid fun (ss : List (List UInt8)) hp => sorted_keys (hk := Tryz.underlying9) (ev := evO) h.mo.srt (ss := ss) hp
  clear h hsize
  go_enter Tryz.func34, Tryz.ntmps34
  go_wp2_with fail
  refine (keysS_fn (some L.bo) w).mono ?_
  rintro e w' ⟨rfl, rfl⟩
  go_wp2_with fail
  refine HSF.out.mono ?_
  rintro e w1 ⟨v, ss, rfl, hperm, hrow, -, hb1⟩
  obtain ⟨hkeys, hsl⟩ := HSK.out ss hperm
  rw [hkeys, hsl] at hrow
  obtain ⟨A1, cc1, rfl, -, -, -⟩ := own_slice hrow
  have HB1 : Hid (Below w.heap.size w w1) := Lib.hid (((Below.refl w.heap.size w).alloc (Nat.le_refl _) _).trans (hb1.mono (by simp)))
  have HR1 := Lib.hid (own_base hrow (by simp : w.heap.size ≤ _))
  clear hkeys hsl hrow hb1 hperm HSK HSF c0
  go_wp2
  go_ret
  exact ⟨A1, cc1, rfl, HR1.out, HB1.out⟩

theorem sortsI (m : Nat) : AnyZI.SortsIn Tryz.prog Tryz.sorted54_ren Fence.wide m :=
  ⟨fun blk off cap ss W hH hblk hsz => callsIn_wide.2 (AnyM.slices_Sort_int Tryz.sort65 blk off cap ss W hH hblk hsz),
   fun p cap W => callsIn_wide.2 (AnyM.slices_Sort_int_none Tryz.sort65 p cap W)⟩
theorem keysI_fn (mb : Option Nat) (W : World) : Calls Tryz.prog 55 #[.map mb] W fun e w' => e = .returned (.func (.func 66) #[] #[.pointer (some ⟨W.heap.size, 0, none⟩)]) ∧ w' = W.alloc (.cells #[.map mb] 49) :=
  (callsIn_wide (n := 5)).1 (AnyZI.keys_in Tryz.keys55 Fence.wide 5 trivial rfl mb W)
set_option maxHeartbeats 1000000 in
theorem sortedI_fn {H : Type} (b nn : Nat) (D0 : DataW H) (R : Value → Option (DataW H × List MemPlace)) (w : World) (hown : w.ownsMap Tryz.prog 3 R b nn D0) (hmax : Go.Maps.size D0 ≤ maxLen) (hbytes : Go.Maps.size D0 * 8 ≤ 140737488355328) :
    Calls Tryz.prog 54 #[.func (.func 66) #[] #[.pointer (some ⟨w.heap.size, 0, none⟩)]] (w.alloc (.cells #[.map (some b)] 49)) fun e w' => ∃ (v : Value) (ss : List (Int)), e = .returned v ∧ ss.Perm (intKeys D0) ∧
      w'.ownsRow (w.alloc (.cells #[.map (some b)] 49)).heap.size 3 1 v ss.length ((ss.mergeSort (fun x y => decide (x ≤ y))).map encZ) ∧ (v = .slice none 0 0 ↔ ss = []) ∧ Below (w.alloc (.cells #[.map (some b)] 49)).heap.size (w.alloc (.cells #[.map (some b)] 49)) w' := by
  have hbl := hown.lt
  have hseq : SeqGives Fence.wide 2 Tryz.prog 66 #[.pointer (some ⟨w.heap.size, 0, none⟩)] encZ (fun ss => ss.Perm (intKeys D0)) (Go.Maps.size D0) (w.alloc (.cells #[.map (some b)] 49)) :=
    AnyZI.keys_gives (ρ := Tryz.keys55_ren) { Tryz.keys55 with } Fence.wide _ trivial rfl (by omega) w.heap.size b nn D0 _ (by simp) (by simp) (by
      obtain ⟨es, clock, hb, Ft, hs, hD⟩ := hown
      exact ⟨es, clock, (Below.heap_alloc _ _ b hbl).trans hb, Ft, hs, hD⟩)
  exact (callsIn_wide (n := 5)).1 (AnyZI.sorted_in Tryz.sorted54 Fence.wide 5 trivial trivial trivial trivial rfl (by omega) (sortsI _) (enters_of Tryz.func65 (by kernel_rfl) rfl) 66 #[.pointer (some ⟨w.heap.size, 0, none⟩)] trivial (enters_of Tryz.func66 (by kernel_rfl) rfl) _ _ hmax hbytes _ hseq)
theorem uploads_calls (w : World) {L : LS} (h : At w L) (hn : L.ups.length ≤ 1000000) :
    Calls Tryz.prog 35 #[.pointer (some ⟨L.gs, 0, none⟩)] w fun e w' => ∃ A c, e = .returned (.slice A L.ups.length c) ∧ w'.ownsRow w.heap.size 3 1 (.slice A L.ups.length c) L.ups.length (L.ups.map fun p => .int .i64 p.1) ∧ Below w.heap.size w w' := by
  have c0 := h.c_bu
  have hsize : Go.Maps.size (DataW.map (L.ups.map (encE kI evU))) = L.ups.length := by rw [Go.Maps.size_eq, List.length_map]
  have HSF := Lib.hid (sortedI_fn L.bu L.ups.length _ rawR w h.mu.own (by rw [hsize]; unfold maxLen; omega) (by rw [hsize]; omega))
  have HSK := Lib.hid fun (ss : List (Int)) hp => sorted_ints (hk := Tryz.underlying3) (ev := evU) (h.mu.srt.imp fun hpq => by simpa [intT] using hpq) (ss := ss) hp
  clear h hsize
  go_enter Tryz.func35, Tryz.ntmps35
  go_wp2_with fail
  refine (keysI_fn (some L.bu) w).mono ?_
  rintro e w' ⟨rfl, rfl⟩
  go_wp2_with fail
  refine HSF.out.mono ?_
  rintro e w1 ⟨v, ss, rfl, hperm, hrow, -, hb1⟩
  obtain ⟨hkeys, hsl⟩ := HSK.out ss hperm
  rw [hkeys, hsl] at hrow
  obtain ⟨A1, cc1, rfl, -, -, -⟩ := own_slice hrow
  have HB1 : Hid (Below w.heap.size w w1) := Lib.hid (((Below.refl w.heap.size w).alloc (Nat.le_refl _) _).trans (hb1.mono (by simp)))
  have HR1 := Lib.hid (own_base hrow (by simp : w.heap.size ≤ _))
  clear hkeys hsl hrow hb1 hperm HSK HSF c0
  go_wp2
  go_ret
  exact ⟨A1, cc1, rfl, HR1.out, HB1.out⟩
end St
end Go.Proofs.YtlljpjehalodfaaGreat
