/- The store's predicates on keys and ids (chapter 14). The items of a page (chapter 14). -/
import Derived.Test.YtlljpjehalodfaaGreatProg
import Derived.Test.YtlljpjehalodfaaGreatStG0
import Derived.Test.YtlljpjehalodfaaGreatStL
import Derived.Test.YtlljpjehalodfaaGreatShelf

namespace Go.Proofs.YtlljpjehalodfaaGreat
open Go.RowKit Go.Lib Go.Shelf
namespace St

theorem opened1_calls (W : World) {g3 : Nat} {x : Cl} (hb : Blk W g3 34 x.cells) (id : Int) : Calls Tryz.prog 48 #[.int .i64 id, .pointer (some ⟨g3, 0, none⟩)] W fun e w' => e = .returned (.bool (decide (id ≤ x.id))) ∧ w' = W := by
  have c6 : W.cell? ⟨g3, 6, none⟩ = some (.int .i64 x.id) := hb.cell 6
  clear hb
  go_enter Tryz.func48, Tryz.ntmps48
  go_wp2
  go_ret
  exact ⟨rfl, rfl⟩
def listP (x : Cl) (k : ByteArray) : Bool := !(Lib.hasPrefix k.data.toList x.key.data.toList) || (Op.bytesLess k.toList x.d || k.toList == x.d)
theorem list1_calls (W : World) {g3 B : Nat} {x : Cl} (hb : Blk W g3 34 x.cells) (hd : Bytes W B x.A x.d.length x.d) (k : ByteArray) : Calls Tryz.prog 43 #[.string k, .pointer (some ⟨g3, 0, none⟩)] W fun e w' => e = .returned (.bool (listP x k)) ∧ w' = W := by
  have c1 : W.cell? ⟨g3, 1, none⟩ = some (.string x.key) := hb.cell 1
  have c2 : W.cell? ⟨g3, 2, none⟩ = some (.slice x.A x.d.length x.c) := hb.cell 2
  have hcv := hd.conv Tryz.prog x.c 32 5 9 Tryz.underlying32 Tryz.underlying5 Tryz.underlying9
  have HP := Lib.hid (Tryz.strings_HasPrefix k x.key W)
  clear hb hd
  cases hh : Lib.hasPrefix k.data.toList x.key.data.toList with
  | false =>
    go_enter Tryz.func43, Tryz.ntmps43
    go_wp2_with fail
    refine HP.out.mono ?_
    rintro e w' ⟨rfl, rfl⟩
    rw [hh]
    go_wp2
    go_ret
    exact ⟨by unfold listP; rw [hh]; rfl, rfl⟩
  | true =>
    go_enter Tryz.func43, Tryz.ntmps43
    go_wp2_with fail
    refine HP.out.mono ?_
    rintro e w' ⟨rfl, rfl⟩
    rw [hh]
    go_wp2
    go_ret
    exact ⟨by unfold listP; rw [hh]; rfl, rfl⟩
end St
end Go.Proofs.YtlljpjehalodfaaGreat

namespace Go.Proofs.YtlljpjehalodfaaGreat
open Go.RowKit
namespace St

structure It where
  key : ByteArray
  ver : Int
  size : Int
  born : Int
def It.cells (x : It) : List Value := [.string x.key, .int .i64 x.ver, .int .i64 x.size, .int .i64 x.born]
def It.val (x : It) : Value := .agg #[.string x.key, .int .i64 x.ver, .int .i64 x.size, .int .i64 x.born]
def itO (L : LS) (k : ByteArray) : It := ⟨k, ((mget L.objs k).getD ob0).ver, (((mget L.objs k).getD ob0).d.length : Int), ((mget L.objs k).getD ob0).born⟩
theorem set4_blk {w : World} {g : Nat} {t : TypeId} {z0 z1 z2 z3 v0 v1 v2 v3 : Value} (h : Blk w g t #[z0, z1, z2, z3]) : Blk ((((w.setCell ⟨g, 0, none⟩ v0).setCell ⟨g, 1, none⟩ v1).setCell ⟨g, 2, none⟩ v2).setCell ⟨g, 3, none⟩ v3) g t #[v0, v1, v2, v3] := by
  have h0 : Blk _ g t #[v0, z1, z2, z3] := h.set_ 0 v0
  have h1 : Blk _ g t #[v0, v1, z2, z3] := h0.set_ 1 v1
  have h2 : Blk _ g t #[v0, v1, v2, z3] := h1.set_ 2 v2
  have h3 : Blk _ g t #[v0, v1, v2, v3] := h2.set_ 3 v3
  exact h3
set_option maxHeartbeats 1600000 in
theorem list2_calls (w : World) {L : LS} {gx : Nat} {k : ByteArray} (h : At w L) (hx : Blk w gx 23 #[.pointer (some ⟨L.gs, 0, none⟩)]) (hk : k.size ≤ maxLen) :
    Calls Tryz.prog 46 #[.string k, .pointer (some ⟨gx, 0, none⟩)] w fun e w' => e = .returned (itO L k).val ∧ Below w.heap.size w w' := by
  have HM := Lib.hid h.mo
  have HU := Lib.hid Tryz.underlying48
  have HOK : Hid ((kS).ok k) := Lib.hid hk
  have HE : Hid ((mget L.objs k).elim zO evO = .agg #[.slice ((mget L.objs k).getD ob0).A ((mget L.objs k).getD ob0).d.length ((mget L.objs k).getD ob0).c, .int .i64 ((mget L.objs k).getD ob0).ver, .int .i64 ((mget L.objs k).getD ob0).born]) := Lib.hid (elimO L.objs k)
  have c0 := h.c_bo
  have x0 : w.cell? ⟨gx, 0, none⟩ = some (.pointer (some ⟨L.gs, 0, none⟩)) := hx.cell 0
  have n1 := hx.lt
  have n2 := h.blk.lt
  unfold itO
  generalize (mget L.objs k).getD ob0 = o at *
  clear h hx
  go_enter Tryz.func46, Tryz.ntmps46
  go_wp2_with (at_lookup; go_must (refine wpList_getv _ rfl _ _ rfl (HM.out.alloc _) HU.out (zeroO _) k rfl rfl HOK.out _ HE.out ?_))
  have hw := (Blk.new w 62 #[.string k, .int .i64 o.ver, .int .i64 (o.d.length : Int), .int .i64 o.born]).alloc (.cells #[.slice o.A o.d.length o.c, .int .i64 o.ver, .int .i64 o.born] 53)
  refine bodyPost_ret (results_cell_row rfl _ _ w.heap.size 62 #[.string k, .int .i64 o.ver, .int .i64 (o.d.length : Int), .int .i64 o.born] (0, 0) _ rfl hw Tryz.underlying62 rfl (by kernel_rfl)) rfl ?_
  exact ⟨rfl, ((Below.refl _ _).alloc (Nat.le_refl _) _).alloc (by simp) _⟩
def itU (id : Int) (u : Up) : It := ⟨u.key, id, (psum u : Int), u.born⟩
set_option maxRecDepth 100000 in
set_option maxHeartbeats 3200000 in
theorem opened2_calls (w : World) {L : LS} {n gx : Nat} {id : Int} {u : Up} (h : At w L) (hi : Inv L n) (hn : n ≤ 1000000) (hx : Blk w gx 23 #[.pointer (some ⟨L.gs, 0, none⟩)]) (hu : mget L.ups id = some u) (hid : (Lit.int .i64 id).wf = true) :
    Calls Tryz.prog 50 #[.int .i64 id, .pointer (some ⟨gx, 0, none⟩)] w fun e w' => e = .returned (itU id u).val ∧ Below w.heap.size w w' := by
  have HM := Lib.hid h.mu
  have HU := Lib.hid Tryz.underlying49
  have HOK : Hid ((kI).ok id) := Lib.hid hid
  have hm := mget_mem hu
  have HE : Hid ((mget L.ups id).elim zU evU = .agg #[.string u.key, .int .i64 u.born, .map (some u.b)]) := Lib.hid (by rw [hu]; rfl)
  have HZ : Hid (∀ W, Below w.heap.size w W → Calls Tryz.prog 51 #[.agg #[.string u.key, .int .i64 u.born, .map (some u.b)]] W fun e w' => e = .returned (.int .i64 (psum u : Nat)) ∧ Below W.heap.size W w') := Lib.hid fun W hW =>
    size_calls W ((h.um _ hm).below hW (h.um _ hm).lt_) (hi.pd _ hm) (Nat.le_trans (hi.pn _ hm) hn) u.key u.born
  have c0 := h.c_bu
  have x0 : w.cell? ⟨gx, 0, none⟩ = some (.pointer (some ⟨L.gs, 0, none⟩)) := hx.cell 0
  have n1 := hx.lt
  have n2 := h.blk.lt
  unfold itU
  generalize psum u = s at *
  clear h hx hi hm
  go_enter Tryz.func50, Tryz.ntmps50
  go_upto_region 2 with (at_lookup; go_must (refine wpList_getv _ rfl _ _ rfl (HM.out.alloc _) HU.out (zeroU _) id rfl rfl HOK.out _ HE.out ?_))
  have hz : (w.alloc (.cells #[.string ⟨#[]⟩, .int .i64 0, .int .i64 0, .int .i64 0] 62)).heap.size = w.heap.size + 1 := by simp
  have HB1 := Lib.hid ((Blk.new w 62 #[.string ⟨#[]⟩, .int .i64 0, .int .i64 0, .int .i64 0]).alloc (.cells #[.string u.key, .int .i64 u.born, .map (some u.b)] 57))
  have HB2 := Lib.hid (Blk.new (w.alloc (.cells #[.string ⟨#[]⟩, .int .i64 0, .int .i64 0, .int .i64 0] 62)) 57 #[.string u.key, .int .i64 u.born, .map (some u.b)])
  rw [hz] at HB2
  have HW1 : Hid (Below w.heap.size w ((w.alloc (.cells #[.string ⟨#[]⟩, .int .i64 0, .int .i64 0, .int .i64 0] 62)).alloc (.cells #[.string u.key, .int .i64 u.born, .map (some u.b)] 57))) := Lib.hid (((Below.refl _ _).alloc (Nat.le_refl _) _).alloc (by simp) _)
  clear hz c0 x0
  generalize (w.alloc (.cells #[.string ⟨#[]⟩, .int .i64 0, .int .i64 0, .int .i64 0] 62)).alloc (.cells #[.string u.key, .int .i64 u.born, .map (some u.b)] 57) = w1 at *
  generalize hg5 : w.heap.size + 1 = g5 at *
  have hsz := HB1.out.lt
  have Hk : Hid (∀ W, Below w1.heap.size w1 W → W.cell? ⟨g5, 0, none⟩ = some (.string u.key) ∧ W.cell? ⟨g5, 1, none⟩ = some (.int .i64 u.born) ∧ W.cell? ⟨g5, 2, none⟩ = some (.map (some u.b))) := Lib.hid fun W hW => ⟨(HB2.out.below hW HB2.out.lt).cell 0, (HB2.out.below hW HB2.out.lt).cell 1, (HB2.out.below hW HB2.out.lt).cell 2⟩
  refine wp_region_T 8 (fun w' => w'.cell? ⟨g5, 0, none⟩ = some (.string u.key) ∧ w'.cell? ⟨g5, 1, none⟩ = some (.int .i64 u.born) ∧ w'.cell? ⟨g5, 2, none⟩ = some (.map (some u.b))) (by kernel_rfl) (Hk.out _ (below_drewN_ (Below.refl _ _) 1)) (fun hHeld => ?_)
  refine wpAnyT_take (i := 0) (oi := _) (v := .pointer (some ⟨g5, 0, none⟩)) rfl (by kernel_rfl) (fun _ _ _ h => h) (Or.inl ⟨by kernel_rfl, by (intro w hSw; (try dsimp only at hSw); go_simp)⟩) (by assumption) ?_; (try simp only [Act.put, List.getElem_toArray, List.getElem_cons_zero, List.setIfInBounds_toArray, List.set_cons_zero, List.set_cons_succ])
  refine wpAnyT_take (i := 1) (oi := _) (v := .string u.key) rfl (by kernel_rfl) (fun _ _ _ h => h) (Or.inl ⟨by kernel_rfl, by (intro w hSw; (try dsimp only at hSw); go_simp)⟩) (by assumption) ?_; (try simp only [Act.put, List.getElem_toArray, List.getElem_cons_zero, List.getElem_cons_succ, List.setIfInBounds_toArray, List.set_cons_zero, List.set_cons_succ])
  refine wpAnyT_take (i := 2) (oi := _) (v := .int .i64 id) rfl (by kernel_rfl) (fun _ _ _ h => h) (Or.inl ⟨by kernel_rfl, by (intro w hSw; (try dsimp only at hSw); go_simp)⟩) (by assumption) ?_; (try simp only [Act.put, List.getElem_toArray, List.getElem_cons_zero, List.getElem_cons_succ, List.setIfInBounds_toArray, List.set_cons_zero, List.set_cons_succ])
  refine wpAnyT_take (i := 3) (oi := _) (v := .agg #[.string u.key, .int .i64 u.born, .map (some u.b)]) rfl (by kernel_rfl) (fun _ _ _ h => h) (Or.inl ⟨by kernel_rfl, by (intro w hSw; (try dsimp only at hSw); go_simp)⟩) (by assumption) ?_; (try simp only [Act.put, List.getElem_toArray, List.getElem_cons_zero, List.getElem_cons_succ, List.setIfInBounds_toArray, List.set_cons_zero, List.set_cons_succ])
  refine wpAnyT_take (i := 5) (oi := _) (v := .pointer (some ⟨g5, 1, none⟩)) rfl (by kernel_rfl) (fun _ _ _ h => h) (Or.inl ⟨by kernel_rfl, by (intro w hSw; (try dsimp only at hSw); go_simp)⟩) (by assumption) ?_; (try simp only [Act.put, List.getElem_toArray, List.getElem_cons_zero, List.getElem_cons_succ, List.setIfInBounds_toArray, List.set_cons_zero, List.set_cons_succ])
  refine wpAnyT_take (i := 6) (oi := _) (v := .int .i64 u.born) rfl (by kernel_rfl) (fun _ _ _ h => h) (Or.inl ⟨by kernel_rfl, by (intro w hSw; (try dsimp only at hSw); go_simp)⟩) (by assumption) ?_; (try simp only [Act.put, List.getElem_toArray, List.getElem_cons_zero, List.getElem_cons_succ, List.setIfInBounds_toArray, List.set_cons_zero, List.set_cons_succ])
  refine wpAnyT_one (i := 4) (by kernel_rfl) rfl (fun K hK => ?_); go_simp
  refine (HZ.out _ (HW1.out.trans (below_drewN_ (Below.refl _ _) 1))).mono ?_
  rintro e w2 ⟨rfl, hb2'⟩
  have hb2 : Below w1.heap.size w1 w2 := (below_drewN_ (Below.refl _ _) 1).trans hb2'
  have hH2 := Hk.out _ hb2
  refine hK.out _ _ (fun _ => hH2) ?_
  clear hK K hHeld
  have HB3 := Lib.hid (HB1.out.below hb2 hsz)
  have HW2 := Lib.hid (HW1.out.trans (hb2.mono (Nat.le_of_lt hsz)))
  clear HB1 HB2 HW1 Hk hb2 hb2'
  refine wpAnyT_take (i := 7) (oi := _) (v := .agg #[.string u.key, .int .i64 id, .int .i64 (s : Int), .int .i64 u.born]) rfl (by kernel_rfl) (fun _ _ _ h => h) (Or.inl ⟨by kernel_rfl, by (intro w hSw; (try dsimp only at hSw); go_simp)⟩) (by assumption) ?_; (try simp only [Act.put, List.getElem_toArray, List.getElem_cons_zero, List.getElem_cons_succ, List.setIfInBounds_toArray, List.set_cons_zero, List.set_cons_succ])
  have q0 : w2.cell? ⟨w.heap.size, 0, none⟩ = some (.string ⟨#[]⟩) := HB3.out.cell 0
  have q1 : w2.cell? ⟨w.heap.size, 1, none⟩ = some (.int .i64 0) := HB3.out.cell 1
  have q2 : w2.cell? ⟨w.heap.size, 2, none⟩ = some (.int .i64 0) := HB3.out.cell 2
  have q3 : w2.cell? ⟨w.heap.size, 3, none⟩ = some (.int .i64 0) := HB3.out.cell 3
  have p0 : w2.frozen? ⟨w.heap.size, 0, none⟩ = false := HB3.out.frozen 0
  have p1 : w2.frozen? ⟨w.heap.size, 1, none⟩ = false := HB3.out.frozen 1
  have p2 : w2.frozen? ⟨w.heap.size, 2, none⟩ = false := HB3.out.frozen 2
  have p3 : w2.frozen? ⟨w.heap.size, 3, none⟩ = false := HB3.out.frozen 3
  refine wpAnyT_one (i := 8) (by kernel_rfl) rfl (fun K hK => ?_); go_simp
  refine hK.out _ _ (fun h => absurd rfl h) (wpAnyT_done (by kernel_rfl) ?_ _)
  clear hK K
  go_wp2
  have hw := set4_blk (v0 := .string u.key) (v1 := .int .i64 id) (v2 := .int .i64 (s : Int)) (v3 := .int .i64 u.born) HB3.out
  refine bodyPost_ret (results_cell_row rfl _ _ w.heap.size 62 #[.string u.key, .int .i64 id, .int .i64 (s : Int), .int .i64 u.born] (0, 0) _ rfl hw Tryz.underlying62 rfl (by kernel_rfl)) rfl ?_
  exact ⟨rfl, (((HW2.out.setCell (Nat.le_refl _) _).setCell (Nat.le_refl _) _).setCell (Nat.le_refl _) _).setCell (Nat.le_refl _) _⟩
end St
end Go.Proofs.YtlljpjehalodfaaGreat
