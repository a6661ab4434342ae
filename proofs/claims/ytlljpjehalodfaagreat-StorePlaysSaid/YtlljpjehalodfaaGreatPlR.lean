/- The document's store: any call; the same replies, the same stores (chapter 14). -/
import Derived.Test.YtlljpjehalodfaaGreatProg
import Derived.Test.YtlljpjehalodfaaGreatPlQ
import Derived.Test.YtlljpjehalodfaaGreatSaAE
namespace Go.Proofs.YtlljpjehalodfaaGreat
open Go.RowKit
namespace Rf
open St

theorem doR_calls (w : World) {base n : Nat} {R : RS} {s : PS} {x : Cl} (h : RAt w base R) (hS : Sim R s) (hi : PInv s n) (hs : PSrt s) (hn : n ≤ 1000) (hd : Bytes w w.heap.size x.A x.d.length x.d) (ho : Out R x.A x.d.length) (hx : ClOk x)
    : DoR w base R s x := by
  by_cases h1 : 1 ≤ x.kind ∧ x.kind ≤ 11
  · rcases (by omega : x.kind = 1 ∨ x.kind = 2 ∨ x.kind = 3 ∨ x.kind = 4 ∨ x.kind = 5 ∨ x.kind = 6 ∨ x.kind = 7 ∨ x.kind = 8 ∨ x.kind = 9 ∨ x.kind = 10 ∨ x.kind = 11) with k | k | k | k | k | k | k | k | k | k | k
    · exact doR_1 w h hS hi hs hn hd ho hx k
    · exact doR_2 w h hS hi hs hn hd ho hx k
    · exact doR_3 w h hS hi hs hn hd ho hx k
    · exact doR_4 w h hS hi hs hn hd ho hx k
    · exact doR_5 w h hS hi hs hn hd ho hx k
    · exact doR_6 w h hS hi hs hn hd ho hx k
    · exact doR_7 w h hS hi hs hn hd ho hx k
    · exact doR_8 w h hS hi hs hn hd ho hx k
    · exact doR_9 w h hS hi hs hn hd ho hx k
    · exact doR_10 w h hS hi hs hn hd ho hx k
    · exact doR_11 w h hS hi hs hn hd ho hx k
  · exact doR_none w h hS hi hs hn hd ho hx h1
def it0 : It := ⟨.empty, 0, 0, 0⟩
def gi (l : List It) (i : Nat) : It := l.getD i it0
theorem gi_eq {l : List It} {i : Nat} (h : i < l.length) : l[i] = gi l i := by simp [gi, List.getD, List.getElem?_eq_getElem h]
theorem it_at {w : World} {B : Nat} {A : Option Addr} {l : List It} (h : Reads w B 4 A l.length (itCells l)) {i : Nat} (hi : i < l.length) : ∃ b off, A = some ⟨b, off, none⟩ ∧ b < B ∧ ∀ j u, j < 4 → ((gi l i).cells)[j]? = some u → w.cell? ⟨b, off + i * 4 + j, none⟩ = some u := by
  obtain ⟨b, off, e, hb, hc⟩ := h.2 (by omega)
  refine ⟨b, off, e, hb, fun j u hj hu => ?_⟩
  rw [Nat.add_assoc]
  refine hc _ _ ?_
  unfold itCells
  rw [flatMap_get (size := 4) (fun _ => rfl) l i hi j hj, gi_eq hi, hu]
set_option maxRecDepth 100000 in
set_option maxHeartbeats 16000000 in
theorem same_reply (w : World) {ba bb : Nat} {va vb : Value} {r : PR} (ha : RepAt ba w va r) (hb : RepAt bb w vb r) (hl : r.list.length ≤ 1000000) :
    Calls Tryz.prog 12 #[va, vb] w fun e w' => e = .returned (.bool true) ∧ Below w.heap.size w w' := by
  obtain ⟨A1, c1, A2, c2, rfl, o1, o2⟩ := ha
  obtain ⟨A3, c3, A4, c4, rfl, o3, o4⟩ := hb
  have HY1 := Lib.hid (own_bytes o1)
  have HY3 := Lib.hid (own_bytes o3)
  have HR2 := Lib.hid (Reads.of_own o2)
  have HR4 := Lib.hid (Reads.of_own o4)
  have e1 : (r.err != r.err) = false := nef rfl
  have e2 : (r.ver != r.ver) = false := nef rfl
  have e3 : (r.born != r.born) = false := nef rfl
  have e4 : (r.id != r.id) = false := nef rfl
  have e5 : (r.more != r.more) = false := by cases r.more <;> rfl
  have HB2 := (Blk.new w 43 #[.int .i64 r.err, .slice A1 r.d.length c1, .int .i64 r.ver, .int .i64 r.born, .int .i64 r.id, .slice A2 r.list.length c2, .bool r.more]).alloc (.cells #[.int .i64 r.err, .slice A3 r.d.length c3, .int .i64 r.ver, .int .i64 r.born, .int .i64 r.id, .slice A4 r.list.length c4, .bool r.more] 43)
  have HB3 := Blk.new (w.alloc (.cells #[.int .i64 r.err, .slice A1 r.d.length c1, .int .i64 r.ver, .int .i64 r.born, .int .i64 r.id, .slice A2 r.list.length c2, .bool r.more] 43)) 43 #[.int .i64 r.err, .slice A3 r.d.length c3, .int .i64 r.ver, .int .i64 r.born, .int .i64 r.id, .slice A4 r.list.length c4, .bool r.more]
  have hz : (w.alloc (.cells #[.int .i64 r.err, .slice A1 r.d.length c1, .int .i64 r.ver, .int .i64 r.born, .int .i64 r.id, .slice A2 r.list.length c2, .bool r.more] 43)).heap.size = w.heap.size + 1 := by simp
  rw [hz] at HB3
  have hb : Below w.heap.size w ((w.alloc (.cells #[.int .i64 r.err, .slice A1 r.d.length c1, .int .i64 r.ver, .int .i64 r.born, .int .i64 r.id, .slice A2 r.list.length c2, .bool r.more] 43)).alloc (.cells #[.int .i64 r.err, .slice A3 r.d.length c3, .int .i64 r.ver, .int .i64 r.born, .int .i64 r.id, .slice A4 r.list.length c4, .bool r.more] 43)) := ((Below.refl _ _).alloc (Nat.le_refl _) _).alloc (by omega) _
  have HB2 := Lib.hid HB2
  have HB3 := Lib.hid HB3
  have HW := Lib.hid hb
  clear hb hz o1 o2 o3 o4
  go_enter Tryz.func12, Tryz.ntmps12
  go_upto_region 1 with fail
  generalize ((w.alloc (.cells #[.int .i64 r.err, .slice A1 r.d.length c1, .int .i64 r.ver, .int .i64 r.born, .int .i64 r.id, .slice A2 r.list.length c2, .bool r.more] 43)).alloc (.cells #[.int .i64 r.err, .slice A3 r.d.length c3, .int .i64 r.ver, .int .i64 r.born, .int .i64 r.id, .slice A4 r.list.length c4, .bool r.more] 43)) = w2 at *
  have q0 : w2.cell? ⟨w.heap.size, 0, none⟩ = some (.int .i64 r.err) := HB2.out.cell 0
  have q1 : w2.cell? ⟨w.heap.size, 1, none⟩ = some (.slice A1 r.d.length c1) := HB2.out.cell 1
  have q2 : w2.cell? ⟨w.heap.size, 2, none⟩ = some (.int .i64 r.ver) := HB2.out.cell 2
  have q3 : w2.cell? ⟨w.heap.size, 3, none⟩ = some (.int .i64 r.born) := HB2.out.cell 3
  have q4 : w2.cell? ⟨w.heap.size, 4, none⟩ = some (.int .i64 r.id) := HB2.out.cell 4
  have q5 : w2.cell? ⟨w.heap.size, 5, none⟩ = some (.slice A2 r.list.length c2) := HB2.out.cell 5
  have q6 : w2.cell? ⟨w.heap.size, 6, none⟩ = some (.bool r.more) := HB2.out.cell 6
  have p0 : w2.cell? ⟨w.heap.size + 1, 0, none⟩ = some (.int .i64 r.err) := HB3.out.cell 0
  have p1 : w2.cell? ⟨w.heap.size + 1, 1, none⟩ = some (.slice A3 r.d.length c3) := HB3.out.cell 1
  have p2 : w2.cell? ⟨w.heap.size + 1, 2, none⟩ = some (.int .i64 r.ver) := HB3.out.cell 2
  have p3 : w2.cell? ⟨w.heap.size + 1, 3, none⟩ = some (.int .i64 r.born) := HB3.out.cell 3
  have p4 : w2.cell? ⟨w.heap.size + 1, 4, none⟩ = some (.int .i64 r.id) := HB3.out.cell 4
  have p5 : w2.cell? ⟨w.heap.size + 1, 5, none⟩ = some (.slice A4 r.list.length c4) := HB3.out.cell 5
  have p6 : w2.cell? ⟨w.heap.size + 1, 6, none⟩ = some (.bool r.more) := HB3.out.cell 6
  have v1 := (HY1.out.below HW.out).conv Tryz.prog c1 32 5 9 Tryz.underlying32 Tryz.underlying5 Tryz.underlying9
  have v3 := (HY3.out.below HW.out).conv Tryz.prog c3 32 5 9 Tryz.underlying32 Tryz.underlying5 Tryz.underlying9
  go_upto_region 3 with fail
  clear e1 e2 e3 e4 e5 v1 v3
  go_wp2
  go_loopw [60] (fun i wr => ∃ j : Nat, j ≤ r.list.length ∧ i = .int .i64 (j : Int) ∧ ∃ m, wr = w2.drewN m) (fun i _ => r.list.length - (intOf i).toNat)
  case atStart => exact ⟨0, Nat.zero_le _, rfl, 0, rfl⟩
  case round =>
    obtain ⟨j, hj, rfl, m, rfl⟩ := hrel
    by_cases hlt : j < r.list.length
    · have d1 : decide ((j : Int) < (r.list.length : Int)) = true := dct (by omega)
      obtain ⟨b1, o1, a1, hb1, hc1⟩ := it_at (HR2.out.below HW.out) hlt
      obtain ⟨b3, o3, a3, hb3, hc3⟩ := it_at (HR4.out.below HW.out) hlt
      have x0 := hc1 0 _ (by omega) rfl
      have x1 := hc1 1 _ (by omega) rfl
      have x2 := hc1 2 _ (by omega) rfl
      have x3 := hc1 3 _ (by omega) rfl
      have y0 := hc3 0 _ (by omega) rfl
      have y1 := hc3 1 _ (by omega) rfl
      have y2 := hc3 2 _ (by omega) rfl
      have y3 := hc3 3 _ (by omega) rfl
      rw [Nat.add_zero] at x0 y0
      have hi0 : (0 : Int) ≤ (j : Int) := by omega
      have hi1 : (j : Int) < (r.list.length : Int) := by omega
      clear hc1 hc3
      rw [a1] at q5
      rw [a3] at p5
      generalize gi r.list j = y at *
      go_upto_region 6 with fail
      go_quiet (fail)
      go_wp2
      go_roundw
      case rel => exact ⟨j + 1, by omega, by go_num, _, rfl⟩
      case measure => simp [intOf]; omega
    · obtain rfl : j = r.list.length := by omega
      have d1 : decide ((r.list.length : Int) < (r.list.length : Int)) = false := dcf (by omega)
      go_wp2
      go_ret
      exact ⟨rfl, below_drewN_ HW.out _⟩
theorem go_key {L : LS} {R : RS} (hS : Sim R L.pure) {j : Nat} (hj : j < L.objs.length) : (L.objs.map fun p => Value.string p.1)[j]? = some (.string (go R.objs j).key) := by
  have e : R.objs.map (fun o => o.key) = L.objs.map fun p => p.1 := by
    have h1 := congrArg (List.map fun p : ByteArray × PO => p.1) hS.objs
    rw [List.map_map] at h1
    show R.objs.map _ = _
    have h2 : L.pure.objs.map (fun p : ByteArray × PO => p.1) = L.objs.map fun p => p.1 := by
      show (L.objs.map _).map _ = _
      rw [List.map_map]; rfl
    rw [← h2, ← h1]; rfl
  have hl : R.objs.length = L.objs.length := by have := congrArg List.length e; rwa [List.length_map, List.length_map] at this
  have h3 : (L.objs.map fun p => Value.string p.1) = (R.objs.map fun o => o.key).map Value.string := by rw [e, List.map_map]; rfl
  rw [h3, List.getElem?_map, List.getElem?_map, List.getElem?_eq_getElem (by omega : j < R.objs.length), go_eq (by omega)]; rfl
theorem gu_id {L : LS} {R : RS} (hS : Sim R L.pure) {j : Nat} (hj : j < L.ups.length) : (L.ups.map fun p => Value.int .i64 p.1)[j]? = some (.int .i64 (gu R.ups j).id) := by
  have hl : R.ups.length = L.ups.length := by rw [hS.ups.len]; exact List.length_map ..
  have h2 : j < L.pure.ups.length := by show j < (L.ups.map _).length; rw [List.length_map]; exact hj
  have h1 := (hS.ups.get (i := j) (by omega) h2).id
  rw [gu_eq (by omega)] at h1
  rw [List.getElem?_map, List.getElem?_eq_getElem hj, h1]
  have e : L.pure.ups[j]'h2 = (L.ups[j].1, L.ups[j].2.pure) := List.getElem_map ..
  rw [e]; rfl
set_option maxRecDepth 100000 in
set_option maxHeartbeats 16000000 in
theorem same_calls (w : World) {base n : Nat} {L : LS} {R : RS} (hL : At w L) (hR : RAt w base R) (hS : Sim R L.pure) (hi : PInv L.pure n) (hn : n ≤ 1000) :
    Calls Tryz.prog 14 #[.pointer (some ⟨L.gs, 0, none⟩), .pointer (some ⟨R.g, 0, none⟩)] w fun e w' => e = .returned (.bool true) ∧ Below w.heap.size w w' := by
  have HL := Lib.hid hL
  have HR := Lib.hid hR
  have HSIM := Lib.hid hS
  have HI := Lib.hid hi
  have hlo : L.objs.length = R.objs.length := by rw [hS.olen]; exact (List.length_map ..).symm
  have hlu : L.ups.length = R.ups.length := by rw [hS.ups.len]; exact (List.length_map ..).symm
  have hol : R.objs.length ≤ 1000 := by rw [hS.olen]; exact Nat.le_trans hi.on hn
  have hul : R.ups.length ≤ 1000 := by rw [hS.ups.len]; exact Nat.le_trans hi.un hn
  have HKC := Lib.hid (keys_calls w hL (by omega))
  rw [hlo] at HKC
  have HLO := Lib.hid hlo
  have HLU := Lib.hid hlu
  have HALL : Hid (L.all = (R.size : Int)) := Lib.hid (by rw [hS.size]; exact hi.all)
  have HNOW : Hid (L.now = R.now) := Lib.hid hS.now.symm
  clear hL hR hS hi hlo hlu
  go_enter Tryz.func14, Tryz.ntmps14
  go_wp2_with fail
  refine HKC.out.mono ?_
  rintro e w3 ⟨A1, c1, rfl, hown1, hb3⟩
  have HUC := Lib.hid (uploads_calls w3 (HL.out.below hb3) (by rw [HLU.out]; omega))
  rw [HLU.out] at HUC
  have HB3 := Lib.hid hb3
  have HO1 := Lib.hid hown1
  clear hown1 hb3 HKC
  go_wp2_with fail
  refine HUC.out.mono ?_
  rintro e w5 ⟨A2, c2, rfl, hown2, hb5⟩
  have HB5 := Lib.hid (HB3.out.trans (hb5.mono HB3.out.size))
  have HR1 := Lib.hid ((Reads.of_own HO1.out).below hb5)
  have HR2 := Lib.hid (Reads.of_own hown2)
  have hs35 := hb5.size
  have HA := Lib.hid (HL.out.below HB5.out)
  have HRA := Lib.hid (HR.out.below HB5.out)
  clear hown2 hb5 HO1 HUC HB3 HL HR
  go_upto_region 2 with fail
  go_cut [46] from 47 (fun v wx => v = .bool false ∧ Hid (Below w5.heap.size w5 wx))
  case first =>
    have v1 : ((R.objs.length : Int) != (R.objs.length : Int)) = false := nef rfl
    have v2 : ((R.ups.length : Int) != (R.ups.length : Int)) = false := nef rfl
    have v3 : ((R.size : Int) != (R.size : Int)) = false := nef rfl
    have v4 : (R.now != R.now) = false := nef rfl
    have Hk : Hid (∀ W, Below w5.heap.size w5 W → W.cell? ⟨R.g, 0, none⟩ = some (.slice R.AO R.objs.length R.cO) ∧ W.cell? ⟨R.g, 1, none⟩ = some (.slice R.AU R.ups.length R.cU) ∧ W.cell? ⟨R.g, 4, none⟩ = some (.int .i64 R.now)) := Lib.hid fun W hW => ⟨(HRA.out.below hW).blk.cell 0, (HRA.out.below hW).blk.cell 1, (HRA.out.below hW).blk.cell 4⟩
    have HS1 : Hid (∀ W, Below w5.heap.size w5 W → Calls Tryz.prog 36 #[.pointer (some ⟨L.gs, 0, none⟩)] W fun e w' => e = .returned (.int .i64 (R.size : Nat)) ∧ W = w') := Lib.hid fun W hW => by
      have := all_calls W (HA.out.below hW)
      rw [HALL.out] at this
      exact this
    have HS2 : Hid (∀ W, Below w5.heap.size w5 W → Calls Tryz.prog 27 #[.pointer (some ⟨R.g, 0, none⟩)] W fun e w' => e = .returned (.int .i64 (R.size : Nat)) ∧ Below W.heap.size W w') := Lib.hid fun W hW => HSIM.out.sizeR (HRA.out.below hW) HI.out hn
    have HS3 : Hid (∀ W, Below w5.heap.size w5 W → Calls Tryz.prog 37 #[.pointer (some ⟨L.gs, 0, none⟩)] W fun e w' => e = .returned (.int .i64 R.now) ∧ W = w') := Lib.hid fun W hW => by
      have := now_calls W (HA.out.below hW)
      rw [HNOW.out] at this
      exact this
    refine wp_region_T 99 (fun w' => w'.cell? ⟨R.g, 0, none⟩ = some (.slice R.AO R.objs.length R.cO) ∧ w'.cell? ⟨R.g, 1, none⟩ = some (.slice R.AU R.ups.length R.cU) ∧ w'.cell? ⟨R.g, 4, none⟩ = some (.int .i64 R.now)) (by kernel_rfl) (Hk.out _ (below_drewN_ (Below.refl _ _) 1)) (fun hHeld => ?_)
    have HW0 : Hid (Below w5.heap.size w5 w5.drew) := Lib.hid (below_drewN_ (Below.refl _ _) 1)
    generalize w5.drew = wd at *
    refine wpAnyT_take (i := 0) (oi := _) (v := ?_) rfl (by kernel_rfl) (fun _ _ _ h => h) (Or.inl ⟨by kernel_rfl, ?_⟩) (by assumption) ?_; rotate_left; (focus (intro w hSw; (try dsimp only at hSw); go_simp; (try with_reducible rfl))); (try simp only [Act.put, List.getElem_toArray, List.getElem_cons_zero, List.setIfInBounds_toArray, List.set_cons_zero, List.set_cons_succ])
    refine wpAnyT_take (i := 1) (oi := _) (v := ?_) rfl (by kernel_rfl) (fun _ _ _ h => h) (Or.inl ⟨by kernel_rfl, ?_⟩) (by assumption) ?_; rotate_left; (focus (intro w hSw; (try dsimp only at hSw); go_simp; (try with_reducible rfl))); (try simp only [Act.put, List.getElem_toArray, List.getElem_cons_zero, List.getElem_cons_succ, List.setIfInBounds_toArray, List.set_cons_zero, List.set_cons_succ])
    refine wpAnyT_take (i := 2) (oi := _) (v := ?_) rfl (by kernel_rfl) (fun _ _ _ h => h) (Or.inl ⟨by kernel_rfl, ?_⟩) (by assumption) ?_; rotate_left; (focus (intro w hSw; (try dsimp only at hSw); go_simp; (try with_reducible rfl))); (try simp only [Act.put, List.getElem_toArray, List.getElem_cons_zero, List.getElem_cons_succ, List.setIfInBounds_toArray, List.set_cons_zero, List.set_cons_succ])
    refine wpAnyT_take (i := 3) (oi := _) (v := ?_) rfl (by kernel_rfl) (fun _ _ _ h => h) (Or.inl ⟨by kernel_rfl, ?_⟩) (by assumption) ?_; rotate_left; (focus (intro w hSw; (try dsimp only at hSw); go_simp; (try with_reducible rfl))); (try simp only [Act.put, List.getElem_toArray, List.getElem_cons_zero, List.getElem_cons_succ, List.setIfInBounds_toArray, List.set_cons_zero, List.set_cons_succ])
    refine wpAnyT_take (i := 4) (oi := _) (v := ?_) rfl (by kernel_rfl) (fun _ _ _ h => h) (Or.inl ⟨by kernel_rfl, ?_⟩) (by assumption) ?_; rotate_left; (focus (intro w hSw; (try dsimp only at hSw); go_simp; (try with_reducible rfl))); (try simp only [Act.put, List.getElem_toArray, List.getElem_cons_zero, List.getElem_cons_succ, List.setIfInBounds_toArray, List.set_cons_zero, List.set_cons_succ])
    refine wpAnyT_take (i := 5) (oi := _) (v := ?_) rfl (by kernel_rfl) (fun _ _ _ h => h) (Or.inl ⟨by kernel_rfl, ?_⟩) (by assumption) ?_; rotate_left; (focus (intro w hSw; (try dsimp only at hSw); go_simp; (try with_reducible rfl))); (try simp only [Act.put, List.getElem_toArray, List.getElem_cons_zero, List.getElem_cons_succ, List.setIfInBounds_toArray, List.set_cons_zero, List.set_cons_succ])
    refine wpAnyT_take (i := 6) (oi := _) (v := ?_) rfl (by kernel_rfl) (fun _ _ _ h => h) (Or.inl ⟨by kernel_rfl, ?_⟩) (by assumption) ?_; rotate_left; (focus (intro w hSw; (try dsimp only at hSw); go_simp; (try with_reducible rfl))); (try simp only [Act.put, List.getElem_toArray, List.getElem_cons_zero, List.getElem_cons_succ, List.setIfInBounds_toArray, List.set_cons_zero, List.set_cons_succ])
    refine wpAnyT_take (i := 7) (oi := _) (v := ?_) rfl (by kernel_rfl) (fun _ _ _ h => h) (Or.inl ⟨by kernel_rfl, ?_⟩) (by assumption) ?_; rotate_left; (focus (intro w hSw; (try dsimp only at hSw); go_simp; (try with_reducible rfl))); (try simp only [Act.put, List.getElem_toArray, List.getElem_cons_zero, List.getElem_cons_succ, List.setIfInBounds_toArray, List.set_cons_zero, List.set_cons_succ])
    refine wpAnyT_take (i := 8) (oi := _) (v := ?_) rfl (by kernel_rfl) (fun _ _ _ h => h) (Or.inl ⟨by kernel_rfl, ?_⟩) (by assumption) ?_; rotate_left; (focus (intro w hSw; (try dsimp only at hSw); go_simp; (try with_reducible rfl))); (try simp only [Act.put, List.getElem_toArray, List.getElem_cons_zero, List.getElem_cons_succ, List.setIfInBounds_toArray, List.set_cons_zero, List.set_cons_succ])
    refine wpAnyT_take (i := 9) (oi := _) (v := ?_) rfl (by kernel_rfl) (fun _ _ _ h => h) (Or.inl ⟨by kernel_rfl, ?_⟩) (by assumption) ?_; rotate_left; (focus (intro w hSw; (try dsimp only at hSw); go_simp; (try with_reducible rfl))); (try simp only [Act.put, List.getElem_toArray, List.getElem_cons_zero, List.getElem_cons_succ, List.setIfInBounds_toArray, List.set_cons_zero, List.set_cons_succ])
    refine wpAnyT_take (i := 10) (oi := _) (v := ?_) rfl (by kernel_rfl) (fun _ _ _ h => h) (Or.inl ⟨by kernel_rfl, ?_⟩) (by assumption) ?_; rotate_left; (focus (intro w hSw; (try dsimp only at hSw); go_simp; (try with_reducible rfl))); (try simp only [Act.put, List.getElem_toArray, List.getElem_cons_zero, List.getElem_cons_succ, List.setIfInBounds_toArray, List.set_cons_zero, List.set_cons_succ])
    refine wpAnyT_take (i := 11) (oi := _) (v := ?_) rfl (by kernel_rfl) (fun _ _ _ h => h) (Or.inl ⟨by kernel_rfl, ?_⟩) (by assumption) ?_; rotate_left; (focus (intro w hSw; (try dsimp only at hSw); go_simp; (try with_reducible rfl))); (try simp only [Act.put, List.getElem_toArray, List.getElem_cons_zero, List.getElem_cons_succ, List.setIfInBounds_toArray, List.set_cons_zero, List.set_cons_succ])
    refine wpAnyT_take (i := 12) (oi := _) (v := ?_) rfl (by kernel_rfl) (fun _ _ _ h => h) (Or.inl ⟨by kernel_rfl, ?_⟩) (by assumption) ?_; rotate_left; (focus (intro w hSw; (try dsimp only at hSw); go_simp; (try with_reducible rfl))); (try simp only [Act.put, List.getElem_toArray, List.getElem_cons_zero, List.getElem_cons_succ, List.setIfInBounds_toArray, List.set_cons_zero, List.set_cons_succ])
    refine wpAnyT_take (i := 13) (oi := _) (v := ?_) rfl (by kernel_rfl) (fun _ _ _ h => h) (Or.inl ⟨by kernel_rfl, ?_⟩) (by assumption) ?_; rotate_left; (focus (intro w hSw; (try dsimp only at hSw); go_simp; (try with_reducible rfl))); (try simp only [Act.put, List.getElem_toArray, List.getElem_cons_zero, List.getElem_cons_succ, List.setIfInBounds_toArray, List.set_cons_zero, List.set_cons_succ])
    refine wpAnyT_take (i := 14) (oi := _) (v := ?_) rfl (by kernel_rfl) (fun _ _ _ h => h) (Or.inl ⟨by kernel_rfl, ?_⟩) (by assumption) ?_; rotate_left; (focus (intro w hSw; (try dsimp only at hSw); go_simp; (try with_reducible rfl))); (try simp only [Act.put, List.getElem_toArray, List.getElem_cons_zero, List.getElem_cons_succ, List.setIfInBounds_toArray, List.set_cons_zero, List.set_cons_succ])
    refine wpAnyT_take (i := 15) (oi := _) (v := ?_) rfl (by kernel_rfl) (fun _ _ _ h => h) (Or.inl ⟨by kernel_rfl, ?_⟩) (by assumption) ?_; rotate_left; (focus (intro w hSw; (try dsimp only at hSw); go_simp; (try with_reducible rfl))); (try simp only [Act.put, List.getElem_toArray, List.getElem_cons_zero, List.getElem_cons_succ, List.setIfInBounds_toArray, List.set_cons_zero, List.set_cons_succ])
    refine wpAnyT_take (i := 16) (oi := _) (v := ?_) rfl (by kernel_rfl) (fun _ _ _ h => h) (Or.inl ⟨by kernel_rfl, ?_⟩) (by assumption) ?_; rotate_left; (focus (intro w hSw; (try dsimp only at hSw); go_simp; (try with_reducible rfl))); (try simp only [Act.put, List.getElem_toArray, List.getElem_cons_zero, List.getElem_cons_succ, List.setIfInBounds_toArray, List.set_cons_zero, List.set_cons_succ])
    refine wpAnyT_take (i := 17) (oi := _) (v := ?_) rfl (by kernel_rfl) (fun _ _ _ h => h) (Or.inl ⟨by kernel_rfl, ?_⟩) (by assumption) ?_; rotate_left; (focus (intro w hSw; (try dsimp only at hSw); go_simp; (try with_reducible rfl))); (try simp only [Act.put, List.getElem_toArray, List.getElem_cons_zero, List.getElem_cons_succ, List.setIfInBounds_toArray, List.set_cons_zero, List.set_cons_succ])
    refine wpAnyT_take (i := 18) (oi := _) (v := ?_) rfl (by kernel_rfl) (fun _ _ _ h => h) (Or.inl ⟨by kernel_rfl, ?_⟩) (by assumption) ?_; rotate_left; (focus (intro w hSw; (try dsimp only at hSw); go_simp; (try with_reducible rfl))); (try simp only [Act.put, List.getElem_toArray, List.getElem_cons_zero, List.getElem_cons_succ, List.setIfInBounds_toArray, List.set_cons_zero, List.set_cons_succ])
    refine wpAnyT_take (i := 19) (oi := _) (v := ?_) rfl (by kernel_rfl) (fun _ _ _ h => h) (Or.inl ⟨by kernel_rfl, ?_⟩) (by assumption) ?_; rotate_left; (focus (intro w hSw; (try dsimp only at hSw); go_simp; (try with_reducible rfl))); (try simp only [Act.put, List.getElem_toArray, List.getElem_cons_zero, List.getElem_cons_succ, List.setIfInBounds_toArray, List.set_cons_zero, List.set_cons_succ])
    refine wpAnyT_take (i := 21) (oi := _) (v := ?_) rfl (by kernel_rfl) (fun _ _ _ h => h) (Or.inl ⟨by kernel_rfl, ?_⟩) (by assumption) ?_; rotate_left; (focus (intro w hSw; (try dsimp only at hSw); go_simp; (try with_reducible rfl))); (try simp only [Act.put, List.getElem_toArray, List.getElem_cons_zero, List.getElem_cons_succ, List.setIfInBounds_toArray, List.set_cons_zero, List.set_cons_succ])
    refine wpAnyT_one (i := 20) (by kernel_rfl) rfl (fun K hK => ?_); go_simp
    refine (HS1.out _ HW0.out).mono ?_
    rintro e w6 ⟨rfl, rfl⟩
    refine hK.out _ _ (fun _ => hHeld) ?_
    clear hK K
    (try simp only [Act.put, List.getElem_toArray, List.getElem_cons_zero, List.getElem_cons_succ, List.setIfInBounds_toArray, List.set_cons_zero, List.set_cons_succ])
    refine wpAnyT_one (i := 22) (by kernel_rfl) rfl (fun K hK => ?_); go_simp
    refine (HS2.out _ HW0.out).mono ?_
    rintro e w6 ⟨rfl, hb6⟩
    have HW6 := Lib.hid (HW0.out.trans (hb6.mono HW0.out.size))
    have hH6 := Hk.out _ HW6.out
    refine hK.out _ _ (fun _ => hH6) ?_
    clear hK K hb6 hHeld
    (try simp only [Act.put, List.getElem_toArray, List.getElem_cons_zero, List.getElem_cons_succ, List.setIfInBounds_toArray, List.set_cons_zero, List.set_cons_succ])
    refine wpAnyT_take (i := 23) (oi := _) (v := ?_) rfl (by kernel_rfl) (fun _ _ _ h => h) (Or.inl ⟨by kernel_rfl, ?_⟩) (by assumption) ?_; rotate_left; (focus (intro w hSw; (try dsimp only at hSw); go_simp; (try with_reducible rfl))); (try simp only [Act.put, List.getElem_toArray, List.getElem_cons_zero, List.getElem_cons_succ, List.setIfInBounds_toArray, List.set_cons_zero, List.set_cons_succ])
    refine wpAnyT_take (i := 24) (oi := _) (v := ?_) rfl (by kernel_rfl) (fun _ _ _ h => h) (Or.inl ⟨by kernel_rfl, ?_⟩) (by assumption) ?_; rotate_left; (focus (intro w hSw; (try dsimp only at hSw); go_simp; (try with_reducible rfl))); (try simp only [Act.put, List.getElem_toArray, List.getElem_cons_zero, List.getElem_cons_succ, List.setIfInBounds_toArray, List.set_cons_zero, List.set_cons_succ])
    refine wpAnyT_take (i := 25) (oi := _) (v := ?_) rfl (by kernel_rfl) (fun _ _ _ h => h) (Or.inl ⟨by kernel_rfl, ?_⟩) (by assumption) ?_; rotate_left; (focus (intro w hSw; (try dsimp only at hSw); go_simp; (try with_reducible rfl))); (try simp only [Act.put, List.getElem_toArray, List.getElem_cons_zero, List.getElem_cons_succ, List.setIfInBounds_toArray, List.set_cons_zero, List.set_cons_succ])
    refine wpAnyT_take (i := 26) (oi := _) (v := ?_) rfl (by kernel_rfl) (fun _ _ _ h => h) (Or.inl ⟨by kernel_rfl, ?_⟩) (by assumption) ?_; rotate_left; (focus (intro w hSw; (try dsimp only at hSw); go_simp; (try with_reducible rfl))); (try simp only [Act.put, List.getElem_toArray, List.getElem_cons_zero, List.getElem_cons_succ, List.setIfInBounds_toArray, List.set_cons_zero, List.set_cons_succ])
    refine wpAnyT_take (i := 28) (oi := _) (v := ?_) rfl (by kernel_rfl) (fun _ _ _ h => h) (Or.inl ⟨by kernel_rfl, ?_⟩) (by assumption) ?_; rotate_left; (focus (intro w hSw; (try dsimp only at hSw); go_simp; (try with_reducible rfl))); (try simp only [Act.put, List.getElem_toArray, List.getElem_cons_zero, List.getElem_cons_succ, List.setIfInBounds_toArray, List.set_cons_zero, List.set_cons_succ])
    refine wpAnyT_take (i := 29) (oi := _) (v := ?_) rfl (by kernel_rfl) (fun _ _ _ h => h) (Or.inl ⟨by kernel_rfl, ?_⟩) (by assumption) ?_; rotate_left; (focus (intro w hSw; (try dsimp only at hSw); go_simp; (try with_reducible rfl))); (try simp only [Act.put, List.getElem_toArray, List.getElem_cons_zero, List.getElem_cons_succ, List.setIfInBounds_toArray, List.set_cons_zero, List.set_cons_succ])
    refine wpAnyT_take (i := 30) (oi := _) (v := ?_) rfl (by kernel_rfl) (fun _ _ _ h => h) (Or.inl ⟨by kernel_rfl, ?_⟩) (by assumption) ?_; rotate_left; (focus (intro w hSw; (try dsimp only at hSw); go_simp; (try with_reducible rfl))); (try simp only [Act.put, List.getElem_toArray, List.getElem_cons_zero, List.getElem_cons_succ, List.setIfInBounds_toArray, List.set_cons_zero, List.set_cons_succ])
    refine wpAnyT_take (i := 31) (oi := _) (v := ?_) rfl (by kernel_rfl) (fun _ _ _ h => h) (Or.inl ⟨by kernel_rfl, ?_⟩) (by assumption) ?_; rotate_left; (focus (intro w hSw; (try dsimp only at hSw); go_simp; (try with_reducible rfl))); (try simp only [Act.put, List.getElem_toArray, List.getElem_cons_zero, List.getElem_cons_succ, List.setIfInBounds_toArray, List.set_cons_zero, List.set_cons_succ])
    refine wpAnyT_one (i := 27) (by kernel_rfl) rfl (fun K hK => ?_); go_simp
    refine (HS3.out _ HW6.out).mono ?_
    rintro e w7 ⟨rfl, rfl⟩
    refine hK.out _ _ (fun _ => hH6) ?_
    clear hK K
    (try simp only [Act.put, List.getElem_toArray, List.getElem_cons_zero, List.getElem_cons_succ, List.setIfInBounds_toArray, List.set_cons_zero, List.set_cons_succ])
    refine wpAnyT_take (i := 32) (oi := _) (v := ?_) rfl (by kernel_rfl) (fun _ _ _ h => h) (Or.inl ⟨by kernel_rfl, ?_⟩) (by assumption) ?_; rotate_left; (focus (intro w hSw; (try dsimp only at hSw); go_simp; (try with_reducible rfl))); (try simp only [Act.put, List.getElem_toArray, List.getElem_cons_zero, List.getElem_cons_succ, List.setIfInBounds_toArray, List.set_cons_zero, List.set_cons_succ])
    refine wpAnyT_take (i := 33) (oi := _) (v := ?_) rfl (by kernel_rfl) (fun _ _ _ h => h) (Or.inl ⟨by kernel_rfl, ?_⟩) (by assumption) ?_; rotate_left; (focus (intro w hSw; (try dsimp only at hSw); go_simp; (try with_reducible rfl))); (try simp only [Act.put, List.getElem_toArray, List.getElem_cons_zero, List.getElem_cons_succ, List.setIfInBounds_toArray, List.set_cons_zero, List.set_cons_succ])
    refine wpAnyT_done (by kernel_rfl) ?_ _
    go_wp2
    go_meet
    exact ⟨rfl, HW6⟩
  case rest =>
    obtain ⟨rfl, HW6⟩ := hcut
    have HRA6 := Lib.hid (HRA.out.below HW6.out)
    have HB6 := Lib.hid (HB5.out.trans (HW6.out.mono HB5.out.size))
    have hs5 := HW6.out.size
    have HK6 := Lib.hid (HR1.out.below (HW6.out.mono hs35))
    have HU6 := Lib.hid (HR2.out.below HW6.out)
    clear HRA HB5 HR1 HR2 HW6 HA
    go_wp2
    go_loopw [49] (fun i wr => ∃ j : Nat, j ≤ R.objs.length ∧ i = .int .i64 (j : Int) ∧ ∃ m, wr = wc.drewN m) (fun i _ => R.objs.length - (intOf i).toNat)
    case atStart => exact ⟨0, Nat.zero_le _, rfl, 0, rfl⟩
    case round =>
      obtain ⟨j, hj, rfl, m, rfl⟩ := hrel
      by_cases hlt : j < R.objs.length
      · have d1 : decide ((j : Int) < (R.objs.length : Int)) = true := dct (by omega)
        obtain ⟨b1, o1, a1, hb1, hc1⟩ := HK6.out.2 (by omega)
        have x0 := hc1 j _ (go_key HSIM.out (by rw [HLO.out]; exact hlt))
        obtain ⟨b3, o3, a3, hb3, hc3⟩ := o_at HRA6.out.o_reads hlt
        have y0 := hc3 0 _ (by omega) rfl
        have z0 : wc.cell? ⟨R.g, 0, none⟩ = some (.slice R.AO R.objs.length R.cO) := HRA6.out.blk.cell 0
        rw [Nat.add_zero] at y0
        rw [a3] at z0
        subst a1
        have hi0 : (0 : Int) ≤ (j : Int) := by omega
        have hi1 : (j : Int) < (R.objs.length : Int) := by omega
        clear hc1 hc3
        generalize go R.objs j = y at *
        go_upto_region 7 with fail
        go_quiet (fail)
        go_wp2
        go_roundw
        case rel => exact ⟨j + 1, by omega, by go_num, _, rfl⟩
        case measure => simp [intOf]; omega
      · obtain rfl : j = R.objs.length := by omega
        have d1 : decide ((R.objs.length : Int) < (R.objs.length : Int)) = false := dcf (by omega)
        go_wp2
        clear d1
        go_loopw [68] (fun i wr => ∃ j : Nat, j ≤ R.ups.length ∧ i = .int .i64 (j : Int) ∧ ∃ m, wr = wc.drewN m) (fun i _ => R.ups.length - (intOf i).toNat)
        case atStart => exact ⟨0, Nat.zero_le _, rfl, m, rfl⟩
        case round =>
          clear m hj hlt
          obtain ⟨j, hj, rfl, m, rfl⟩ := hrel
          by_cases hlt : j < R.ups.length
          · have d1 : decide ((j : Int) < (R.ups.length : Int)) = true := dct (by omega)
            obtain ⟨b1, o1, a1, hb1, hc1⟩ := HU6.out.2 (by omega)
            have x0 := hc1 j _ (gu_id HSIM.out (by rw [HLU.out]; exact hlt))
            obtain ⟨b3, o3, a3, hb3, hc3⟩ := u_at HRA6.out.u_reads hlt
            have y0 := hc3 0 _ (by omega) rfl
            have z0 : wc.cell? ⟨R.g, 1, none⟩ = some (.slice R.AU R.ups.length R.cU) := HRA6.out.blk.cell 1
            rw [Nat.add_zero] at y0
            rw [a3] at z0
            subst a1
            have hi0 : (0 : Int) ≤ (j : Int) := by omega
            have hi1 : (j : Int) < (R.ups.length : Int) := by omega
            clear hc1 hc3
            generalize gu R.ups j = y at *
            have v5 : (y.id != y.id) = false := nef rfl
            go_upto_region 13 with fail
            go_quiet (fail)
            go_wp2
            go_roundw
            case rel => exact ⟨j + 1, by omega, by go_num, _, rfl⟩
            case measure => simp [intOf]; omega
          · obtain rfl : j = R.ups.length := by omega
            have d1 : decide ((R.ups.length : Int) < (R.ups.length : Int)) = false := dcf (by omega)
            go_wp2
            go_ret
            exact ⟨rfl, below_drewN_ HB6.out _⟩
end Rf
end Go.Proofs.YtlljpjehalodfaaGreat
