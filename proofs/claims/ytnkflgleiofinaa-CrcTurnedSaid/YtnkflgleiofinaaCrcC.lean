/- Contracts of the package crc (chapter 3): lives, Four, Seal of both. -/
import Derived.Test.YtnkflgleiofinaaCrcB
import Derived.Lib.SlBytesConst
namespace Go.Proofs.Ytnkflgleiofinaa
open Go.RowKit

theorem live_value : crcOf [49, 50, 51, 52, 53, 54, 55, 56, 57] = 3421780262 := by decide +kernel
theorem size_alloc_ (w : World) (o : Obj) : (w.alloc o).heap.size = w.heap.size + 1 := Array.size_push ..
theorem live_q {n : Nat} (h : n = 3421780262) : ((n : Int) == 3421780262) = true := by rw [h]; rfl
theorem bytes_made (w : World) (t : TypeId) (m : Nat × Nat) (l : List UInt8) (cs : Array Value) (n : Nat) (hc : cs.toList = l.map byteV) (hn : l.length = n) : Bytes (w.alloc (.cells cs t m)) (w.heap.size + 1) (some ⟨w.heap.size, 0, none⟩) n l := by
  subst hn
  refine ⟨rfl, by simp, fun _ => ⟨w.heap.size, 0, rfl, by omega, fun j u hu => ?_⟩⟩
  rw [← hc, Array.getElem?_toList] at hu
  rw [Nat.zero_add]
  simp only [World.cell?, World.alloc, Array.getElem?_push_size]
  exact hu

/-- The checksum of one part, as the code writes 'Sum(b)'. -/
theorem sum1_calls (w : World) {B n c : Nat} {A : Option Addr} {l : List UInt8} (h : Bytes w B A n l) (hB : B ≤ w.heap.size) (hn : n ≤ c) (hc : n ≤ 140737488351232) :
    Calls Try.prog 11 #[.slice (some ⟨w.heap.size, 0, none⟩) 1 1] (w.alloc (.cells #[.slice A n c] 24)) fun e w' => e = .returned (.int .u32 ((crcOf l : Nat) : Int)) ∧ Below w.heap.size w w' := by
  have hl := h.len
  subst hl
  have hb : Below w.heap.size w (w.alloc (.cells #[.slice A l.length c] 24)) := (Below.refl _ _).alloc (Nat.le_refl _) _
  have hs : (w.alloc (.cells #[.slice A l.length c] 24)).heap.size = w.heap.size + 1 := size_alloc_ w _
  have h1 : Sl bytesRep _ (w.heap.size + 1) (some ⟨w.heap.size, 0, none⟩) [l] := bytes_one (Blk.new w 24 #[.slice A l.length c]) (h.to (hb.mono hB) (by omega)) hn hc (by omega)
  refine (sum_calls (c := 1) _ h1 (by omega) (by simp)).mono ?_
  rintro e w' ⟨rfl, h2⟩
  refine ⟨by simp, hb.trans (h2.mono (by omega))⟩

def liveRow : Array Value := #[.int .u8 49, .int .u8 50, .int .u8 51, .int .u8 52, .int .u8 53, .int .u8 54, .int .u8 55, .int .u8 56, .int .u8 57]
theorem live_sum (w : World) : Calls Try.prog 11 #[.slice (some ⟨w.heap.size + 1, 0, none⟩) 1 1] ((w.alloc (.cells liveRow 5 (9, 10))).alloc (.cells #[.slice (some ⟨w.heap.size, 0, none⟩) 9 9] 24)) fun e w' => e = .returned (.int .u32 3421780262) ∧ Below w.heap.size w w' := by
  have hby := bytes_made w 5 (9, 10) [49, 50, 51, 52, 53, 54, 55, 56, 57] liveRow 9 rfl rfl
  have hs : (w.alloc (.cells liveRow 5 (9, 10))).heap.size = w.heap.size + 1 := size_alloc_ w _
  have hb : Below w.heap.size w (w.alloc (.cells liveRow 5 (9, 10))) := (Below.refl _ _).alloc (Nat.le_refl _) _
  have h := sum1_calls (c := 9) (w.alloc (.cells liveRow 5 (9, 10))) hby (by omega) (by omega) (by omega)
  rw [hs, live_value] at h
  refine h.mono ?_
  rintro e w' ⟨rfl, h2⟩
  exact ⟨rfl, hb.trans (h2.mono (by omega))⟩

set_option maxRecDepth 100000 in
set_option maxHeartbeats 800000 in
theorem lives_calls (w : World) :
    Calls Try.prog 7 #[] w fun e w' => e = .returned (.bool true) ∧ Below w.heap.size w w' := by
  have kc := fun (w : World) (C : Array Value) (n c : Nat) => Lib.run_convert_bytes_const (P := Try.prog) w 24 5 C n c Try.underlying24 Try.underlying5
  have hl := live_sum w
  unfold liveRow at hl
  have H := Lib.hid hl
  clear hl
  go_enter Try.func7, Try.ntmps7
  go_wp2_with fail
  refine H.out.mono ?_
  rintro en w1 ⟨rfl, h1⟩
  go_wp2
  go_ret
  exact ⟨rfl, h1⟩

theorem four_vals {n : Nat} (hn : n < 4294967296) : (four n).map byteV = [.int .u8 ((n : Int) % 256), .int .u8 ((n : Int) / 256 % 256), .int .u8 ((n : Int) / 65536 % 256), .int .u8 ((n : Int) / 16777216)] := by
  simp only [four, List.map_cons, List.map_nil, byteV, UInt8.toNat_ofNat', List.cons.injEq, Value.int.injEq, true_and, and_true]
  omega
set_option maxRecDepth 100000 in
set_option maxHeartbeats 800000 in
theorem four_calls (n : Nat) (w : World) (hn : n < 4294967296) :
    Calls Try.prog 20 #[.int .u32 (n : Int)] w (RetBytes 5 w (four n)) := by
  go_enter Try.func20, Try.ntmps20
  go_wp2
  go_ret
  have hv := four_vals hn
  refine ⟨_, rfl, ?_, (Below.refl _ _).alloc (Nat.le_refl _) _⟩
  rw [hv]
  exact World.ownsRow_lit (size := 1) w #[.int .u8 ((n : Int) % 256), .int .u8 ((n : Int) / 256 % 256), .int .u8 ((n : Int) / 65536 % 256), .int .u8 ((n : Int) / 16777216)] 4 (Nat.le_refl _) (by simp [maxLen]) rfl

/-- 'make([]T, 0, n)' with a variable n. -/
theorem wpList_make_any {P : Program} (w : World) {ops : Array Oper} {rest : List Oper} {o : Oper} {a : Act} {Q : Exit → Act → World → Prop}
    (hg : o.guard = none) (l c : Operand) (t : TypeId) (hop : o.op = Op.makeSlice t l c)
    (base : Nat) (e : TypeId) (z : Value) (size bytes : Nat) (h1 : P.underlying t = some (.slice e)) (hi : (P.info? e).map (fun i => (i.zero, i.size, i.bytes)) = some (some z, size, bytes))
    (kl kc : IntKind) (C : Int) (n : Nat) (hl : a.eval l = .int kl 0) (hc : a.eval c = .int kc C) (hC : C = (n : Int)) (b2 : bytes * n ≤ 281474976710656) (b3 : n ≤ maxLen) (b4 : base ≤ w.heap.size)
    (hK : ∀ w', w'.ownsRow base e size (.slice (some ⟨w.heap.size, 0, none⟩) 0 n) 0 [] → Below w.heap.size w w' → wpList P ops Q rest (a.put o.dst (.slice (some ⟨w.heap.size, 0, none⟩) 0 n)) w') :
    wpList P ops Q (o :: rest) a w := by
  rcases hj : P.info? e with _ | i
  · rw [hj] at hi; cases hi
  · rw [hj] at hi
    simp only [Option.map_some, Option.some.injEq, Prod.mk.injEq] at hi
    obtain ⟨e1, e2, e3⟩ := hi
    refine wpList_make_own w hg l c t hop base e i z size h1 hj e1 e2 kl kc C n hl hc hC (by rw [e3]; exact b2) b3 b4 ?_
    intro w' h3 h4
    exact hK w' h3 ((Below.refl _ _).grown h4 (Nat.le_refl _) (by intro g hg; cases hg))

set_option maxRecDepth 100000 in
set_option maxHeartbeats 800000 in
theorem sealR_calls (w : World) {B n c : Nat} {A : Option Addr} {l : List UInt8} (h : Bytes w B A n l) (hB : B ≤ w.heap.size) (hn : n ≤ 140737488350000) :
    Calls Try.prog 17 #[.slice A n c] w (RetBytes 5 w (cseal l)) := by
  have hl := h.len
  subst hl
  go_enter Try.func17, Try.ntmps17
  go_wp2_with fail
  refine (twin_calls w h hB (by omega)).mono ?_
  rintro e w1 he
  obtain ⟨A1, c1, rfl, hc1, hm1, hb1, hbel1, hown1⟩ := he.opened
  go_wp2_with fail
  refine (sumR_calls w1 (h.below (hbel1.mono hB)) (by omega)).mono ?_
  rintro e w' ⟨rfl, rfl⟩
  go_wp2_with fail
  refine (four_calls (crcOf l) w1 (crcOf_lt l)).mono ?_
  rintro e w2 he2
  obtain ⟨A2, c2, rfl, hc2, hm2, hb2, hbel2, hown2⟩ := he2.opened
  have hown1' := own_below hown1 hbel2
  have s2 := hbel1.size
  have s3 := hbel2.size
  have h5 : l.length + (four (crcOf l)).length ≤ maxLen := by have h4 : (four (crcOf l)).length = 4 := rfl; unfold maxLen; omega
  have h6 : (l.length + (four (crcOf l)).length) * 1 ≤ 140737488355328 := by have h4 : (four (crcOf l)).length = 4 := rfl; omega
  clear he he2
  go_wp2_with (at_builtin; go_must (refine wpList_append_any _ rfl (.tmp 4) (.tmp 7) _ rfl w.heap.size 5 _ 1 1 Try.underlying24 Try.infoU8 rfl (by omega) _ _ _ rfl hown1' w2.heap.size A2 _ c2 ((four (crcOf l)).map byteV) rfl hb2.2 (byteV_one _) h5 h6 (by omega) ?_))
  intro v' w3 hown3 hbel3 _ _
  have hown4 : w3.ownsRow w.heap.size 5 1 v' (cseal l).length ((cseal l).map byteV) := by unfold cseal; rw [List.length_append, List.map_append]; exact hown3
  have hbel4 : Below w.heap.size w w3 := hbel1.trans ((hbel2.mono (by omega)).trans hbel3)
  clear hown3 hown1 hown1' hown2
  go_wp2
  go_ret
  exact ⟨_, rfl, hown4, hbel4⟩

set_option maxRecDepth 100000 in
set_option maxHeartbeats 800000 in
theorem seal_calls (w : World) {B n c : Nat} {A : Option Addr} {l : List UInt8} (h : Bytes w B A n l) (hB : B ≤ w.heap.size) (hn : n ≤ c) (hc : n ≤ 140737488351232) (hn2 : n ≤ 140737488350000) :
    Calls Try.prog 13 #[.slice A n c] w (RetBytes 5 w (cseal l)) := by
  have hl := h.len
  subst hl
  go_enter Try.func13, Try.ntmps13
  go_wp2_with fail
  refine (sum1_calls w h hB hn hc).mono ?_
  rintro e w1 ⟨rfl, hbel1⟩
  have s1 := hbel1.size
  have h1 := h.below (hbel1.mono hB)
  go_wp2_with (first
    | (at_make; refine wpList_make_any _ rfl _ _ 24 rfl w.heap.size 5 _ 1 1 Try.underlying24 Try.infoU8 .i64 .i64 _ (l.length + 4) rfl rfl (by omega) (by omega) (by unfold maxLen; omega) (by omega) ?_; intro w2 hown2 hbel2; have h2 := h1.below (hbel2.mono (show B ≤ w1.heap.size by omega)); have s2 := hbel2.size)
    | (at_builtin; go_must (refine wpList_append_sl _ rfl (.tmp 11) (.tmp 12) _ rfl w.heap.size 5 _ 1 1 Try.underlying24 Try.infoU8 rfl (by omega) _ _ _ rfl hown2 B A l.length c (l.map byteV) rfl h2.2 (byteV_one _) (by unfold maxLen; omega) (by omega) (by omega) ?_)))
  intro A3 c3 w3 k1 k2 _ hbel3 hown3 _ _
  have s3 := hbel3.size
  have hown4 : w3.ownsRow w.heap.size 5 1 (.slice A3 l.length c3) l.length (l.map byteV) := by simpa using hown3
  have hC := crcOf_lt l
  have hv := Lib.hid (four_vals hC)
  have hcs : cseal l = l ++ four (crcOf l) := rfl
  have Hcs := Lib.hid hcs
  clear hcs hown3
  generalize crcOf l = C at *
  have hr := Reads.made (n := 4) (size := 1) w3 #[.int .u8 ((C : Int) % 256), .int .u8 ((C : Int) / 256 % 256), .int .u8 ((C : Int) / 65536 % 256), .int .u8 ((C : Int) / 16777216)] 5 rfl
  have ho := hown4.alloc (.cells #[.int .u8 ((C : Int) % 256), .int .u8 ((C : Int) / 256 % 256), .int .u8 ((C : Int) / 65536 % 256), .int .u8 ((C : Int) / 16777216)] 5)
  have hb4 : Below w.heap.size w (w3.alloc (.cells #[.int .u8 ((C : Int) % 256), .int .u8 ((C : Int) / 256 % 256), .int .u8 ((C : Int) / 65536 % 256), .int .u8 ((C : Int) / 16777216)] 5)) := ((hbel1.trans (hbel2.mono s1)).trans hbel3).alloc (by omega) _
  have s4 := hb4.size
  go_wp2_with (at_builtin; go_must (refine wpList_append_any _ rfl (.tmp 14) (.tmp 26) _ rfl w.heap.size 5 _ 1 1 Try.underlying24 Try.infoU8 rfl (by omega) _ _ _ rfl ho _ _ _ _ _ rfl hr (by intro u hu; simp at hu; rcases hu with rfl | rfl | rfl | rfl <;> rfl) (by unfold maxLen; omega) (by omega) s4 ?_))
  intro v' w5 hown5 hbel5 _ _
  have hbel6 := hb4.trans hbel5
  clear hown4 ho hr hb4 hown2
  go_wp2
  go_ret
  refine ⟨_, rfl, ?_, hbel6⟩
  rw [Hcs.out, List.length_append, List.map_append, hv.out]
  exact hown5
end Go.Proofs.Ytnkflgleiofinaa
