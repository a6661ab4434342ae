/- Objects and uploads listed (chapter 14). -/
import Derived.Test.YtlljpjehalodfaaGreatProg
import Derived.Test.YtlljpjehalodfaaGreatStV
import Derived.Test.YtlljpjehalodfaaGreatStK
namespace Go.Proofs.YtlljpjehalodfaaGreat
open Go.RowKit
namespace St

theorem pure_keys (L : LS) (x : Cl) : L.pure.keys x.pure = keepF (listP x) (L.objs.map fun p => p.1) := by
  unfold PS.keys
  show keepF _ ((L.objs.map _).map _) = _
  rw [List.map_map]; rfl
theorem pure_list (L : LS) (x : Cl) : (L.pure.list x.pure).list = ((keepF (listP x) (L.objs.map fun p => p.1)).take 16).map (itO L) := by
  show ((L.pure.keys x.pure).take 16).map _ = _
  rw [pure_keys, show L.pure.itO = itO L from funext fun k => (pure_itO L k).symm]
theorem pure_lmore (L : LS) (x : Cl) : (L.pure.list x.pure).more = decide (16 < (keepF (listP x) (L.objs.map fun p => p.1)).length) := by
  show decide (16 < (L.pure.keys x.pure).length) = _
  rw [pure_keys]
def up0 : Up := ⟨.empty, 0, 0, []⟩
def itW (L : LS) (id : Int) : It := itU id ((mget L.ups id).getD up0)
theorem pure_itW (L : LS) (id : Int) : L.pure.itU id = itW L id := by
  unfold PS.itU itW
  have e : (mget L.pure.ups id).getD pu0 = ((mget L.ups id).getD up0).pure := by rw [pure_up]; cases mget L.ups id <;> rfl
  rw [e, pure_psum]; rfl
theorem pure_ids (L : LS) (x : Cl) : L.pure.ids x.pure = keepF (fun id => decide (id ≤ x.id)) (L.ups.map fun p => p.1) := by
  unfold PS.ids
  show keepF _ ((L.ups.map _).map _) = _
  rw [List.map_map]; rfl
theorem pure_opened (L : LS) (x : Cl) : (L.pure.opened x.pure).list = ((keepF (fun id => decide (id ≤ x.id)) (L.ups.map fun p => p.1)).take 16).map (itW L) := by
  show ((L.pure.ids x.pure).take 16).map _ = _
  rw [pure_ids, show L.pure.itU = itW L from funext fun k => pure_itW L k]
theorem pure_omore (L : LS) (x : Cl) : (L.pure.opened x.pure).more = decide (16 < (keepF (fun id => decide (id ≤ x.id)) (L.ups.map fun p => p.1)).length) := by
  show decide (16 < (L.pure.ids x.pure).length) = _
  rw [pure_ids]
theorem keepF_len {α : Type} (p : α → Bool) (l : List α) : (keepF p l).length ≤ l.length := List.length_filter_le _ _
theorem keepF_mem {α : Type} {p : α → Bool} {l : List α} {x : α} (h : x ∈ keepF p l) : x ∈ l := (List.mem_filter.1 h).1
set_option maxRecDepth 100000 in
set_option maxHeartbeats 16000000 in
theorem list_calls (w : World) {L : LS} {n : Nat} {x : Cl} (h : At w L) (hi : Inv L n) (hn : n ≤ 1000000) (hd : Dat w L.gs x.A x.c x.d) :
    Calls Tryz.prog 17 #[.pointer (some ⟨L.gs, 0, none⟩), x.val] w (RetPage w (L.pure.list x.pure).list (L.pure.list x.pure).more) := by
  rw [pure_list, pure_lmore]
  have HA := Lib.hid h
  have HD := Lib.hid hd
  have HI := Lib.hid hi
  have HBS := Lib.hid (((Blk.new w 23 #[.pointer (some ⟨L.gs, 0, none⟩)]).alloc (.cells x.cells 34)).alloc (.cells rep0 43))
  have hz1 : (w.alloc (.cells #[.pointer (some ⟨L.gs, 0, none⟩)] 23)).heap.size = w.heap.size + 1 := by simp
  have hz2 : ((w.alloc (.cells #[.pointer (some ⟨L.gs, 0, none⟩)] 23)).alloc (.cells x.cells 34)).heap.size = w.heap.size + 2 := by simp
  have HBC := (Blk.new (w.alloc (.cells #[.pointer (some ⟨L.gs, 0, none⟩)] 23)) 34 x.cells).alloc (.cells rep0 43)
  have HBR := Blk.new ((w.alloc (.cells #[.pointer (some ⟨L.gs, 0, none⟩)] 23)).alloc (.cells x.cells 34)) 43 rep0
  rw [hz1] at HBC
  rw [hz2] at HBR
  have HBC := Lib.hid HBC
  have HBR := Lib.hid HBR
  have HB1 : Hid (Below w.heap.size w (((w.alloc (.cells #[.pointer (some ⟨L.gs, 0, none⟩)] 23)).alloc (.cells x.cells 34)).alloc (.cells rep0 43))) := Lib.hid ((((Below.refl _ _).alloc (Nat.le_refl _) _).alloc (by omega) _).alloc (by omega) _)
  have e1 : ∀ args w, (callFunc 43 args).run Tryz.prog w = .ok (.enter 43 args) w := enters_of Tryz.func43 (by kernel_rfl) rfl
  have e2 : ∀ args w, (callFunc 46 args).run Tryz.prog w = .ok (.enter 46 args) w := enters_of Tryz.func46 (by kernel_rfl) rfl
  have hln : (L.objs.map fun p => p.1).length ≤ 1000000 := by rw [List.length_map]; exact Nat.le_trans hi.on hn
  generalize hl0 : (L.objs.map fun p => p.1) = l0 at *
  generalize hks : keepF (listP x) l0 = ks
  have HKS := Lib.hid hks
  have hkl : ks.length ≤ 1000000 := by rw [← hks]; exact Nat.le_trans (keepF_len _ _) hln
  have HL0 := Lib.hid hl0
  clear hl0 hks
  unfold Cl.val
  generalize hxc : x.cells = xc at *
  clear h hd hi hz1 hz2
  go_enter Tryz.func17, Tryz.ntmps17
  unfold rep0 at HBS HBC HBR HB1
  go_upto_region 1 with fail
  generalize ((w.alloc (.cells #[.pointer (some ⟨L.gs, 0, none⟩)] 23)).alloc (.cells xc 34)).alloc (.cells #[.int .i64 0, .slice none 0 0, .int .i64 0, .int .i64 0, .int .i64 0, .slice none 0 0, .bool false] 43) = w1 at *
  have hle1 := HB1.out.size
  have hlt1 := HBR.out.lt
  generalize hg4 : w.heap.size + 2 = g4 at *
  generalize hg3 : w.heap.size + 1 = g3 at *
  generalize hgx : w.heap.size = gx at *
  have x0 : w1.cell? ⟨gx, 0, none⟩ = some (.pointer (some ⟨L.gs, 0, none⟩)) := HBS.out.cell 0
  have HA1 := Lib.hid (HA.out.below (hgx ▸ HB1.out))
  have HD1 := Lib.hid (HD.out.below (hgx ▸ HB1.out))
  have HBY1 := Lib.hid HD1.out.bytes
  have HKC := Lib.hid (keys_calls w1 HA1.out (by rw [← HL0.out, List.length_map] at hln; exact hln))
  go_wp2_with fail
  refine HKC.out.mono ?_
  rintro e w2 ⟨A2, c2, rfl, hown2, hb2⟩
  have hmap : (L.objs.map fun p => Value.string p.1) = l0.map (Value.string) := by rw [← HL0.out, List.map_map]; rfl
  rw [hmap] at hown2
  have hlm : L.objs.length = l0.length := by rw [← HL0.out, List.length_map]
  rw [hlm] at hown2 ⊢
  have HT : Hid (Tells w1.heap.size w1 43 #[.pointer (some ⟨g3, 0, none⟩)] (Value.string) (listP x)) := Lib.hid ⟨e1, fun W hW y => list1_calls W (by rw [hxc]; exact HBC.out.below hW (by omega)) (HBY1.out.below hW) y⟩
  have hdc := deleS_calls w2 hown2 HT.out hb2 hln hb2.size
  rw [HKS.out] at hdc
  have HDC := Lib.hid hdc
  clear hdc hown2 hmap hlm HKC x0 HT
  go_wp2_with fail
  refine HDC.out.mono ?_
  rintro e w3 ⟨A3, rfl, hc3, hr3, hb3⟩
  have hb13 : Below w1.heap.size w1 w3 := hb2.trans hb3
  have HG : Hid (Gives w1.heap.size w1 46 #[.pointer (some ⟨gx, 0, none⟩)] (Value.string) (fun k => k.size ≤ maxLen) (itO L)) := Lib.hid ⟨e2, fun W hW y hy => list2_calls W (HA1.out.below hW) (HBS.out.below hW (by omega)) hy⟩
  have HPC := Lib.hid (pageS_calls w3 HG.out hb13 hb13.size hr3 (fun y hy => (by obtain ⟨p, hp, rfl⟩ := List.mem_map.1 (HL0.out.symm ▸ keepF_mem (HKS.out.symm ▸ hy)); exact HA.out.mo.ok p hp)) hc3 hkl)
  clear hr3 HG HDC
  go_wp2_with fail
  refine HPC.out.mono ?_
  rintro e w4 ⟨A4, c4, rfl, hown4, hb4⟩
  have hs13 := hb13.size
  have hb14 : Below w1.heap.size w1 w4 := hb13.trans (hb4.mono hs13)
  have HBR4 := Lib.hid (HBR.out.below hb14 hlt1)
  have HOWN := Lib.hid (own_base hown4 hs13)
  have HB4 := Lib.hid (HB1.out.trans (hb14.mono hle1))
  generalize hln4 : ((ks.take 16).map (itO L)).length = m4 at *
  clear hown4 hb14 hb4 hb13 hb3 hb2 HPC
  unfold pageV
  generalize hbm : decide (16 < ks.length) = bm at *
  have q0 : w4.cell? ⟨g4, 0, none⟩ = some (.int .i64 0) := HBR4.out.cell 0
  have p0 : w4.frozen? ⟨g4, 0, none⟩ = false := HBR4.out.frozen 0
  have q1 : w4.cell? ⟨g4, 1, none⟩ = some (.slice none 0 0) := HBR4.out.cell 1
  have p1 : w4.frozen? ⟨g4, 1, none⟩ = false := HBR4.out.frozen 1
  have q2 : w4.cell? ⟨g4, 2, none⟩ = some (.int .i64 0) := HBR4.out.cell 2
  have p2 : w4.frozen? ⟨g4, 2, none⟩ = false := HBR4.out.frozen 2
  have q3 : w4.cell? ⟨g4, 3, none⟩ = some (.int .i64 0) := HBR4.out.cell 3
  have p3 : w4.frozen? ⟨g4, 3, none⟩ = false := HBR4.out.frozen 3
  have q4 : w4.cell? ⟨g4, 4, none⟩ = some (.int .i64 0) := HBR4.out.cell 4
  have p4 : w4.frozen? ⟨g4, 4, none⟩ = false := HBR4.out.frozen 4
  have q5 : w4.cell? ⟨g4, 5, none⟩ = some (.slice none 0 0) := HBR4.out.cell 5
  have p5 : w4.frozen? ⟨g4, 5, none⟩ = false := HBR4.out.frozen 5
  have q6 : w4.cell? ⟨g4, 6, none⟩ = some (.bool false) := HBR4.out.cell 6
  have p6 : w4.frozen? ⟨g4, 6, none⟩ = false := HBR4.out.frozen 6
  go_wp2
  have hw := set7_blk (v0 := .int .i64 0) (v1 := .slice none 0 0) (v2 := .int .i64 0) (v3 := .int .i64 0) (v4 := .int .i64 0) (v5 := .slice A4 m4 c4) (v6 := .bool bm) HBR4.out
  have hk := set7_keep (w := w4) (g := g4) (v0 := .int .i64 0) (v1 := .slice none 0 0) (v2 := .int .i64 0) (v3 := .int .i64 0) (v4 := .int .i64 0) (v5 := .slice A4 m4 c4) (v6 := .bool bm)
  have hown7 := hk.own HOWN.out (fun i hi e => by omega)
  have hK7 := HB4.out.trans (hk.below (B := gx) (by have := HBR4.out.lt; omega) (fun i e => by omega))
  unfold set7 at hw hown7 hK7
  refine bodyPost_ret (results_cell_row rfl _ _ g4 43 #[.int .i64 0, .slice none 0 0, .int .i64 0, .int .i64 0, .int .i64 0, .slice A4 m4 c4, .bool bm] (0, 0) _ rfl hw Tryz.underlying43 rfl (by kernel_rfl)) rfl ?_
  refine ⟨A4, c4, by first | rfl | (rw [hln4]; rfl) | (rw [hbm]; rfl) | (rw [hln4, hbm]; rfl), ?_, by rw [hgx]; exact hK7⟩
  try rw [hln4]
  exact own_base hown7 (by omega)
set_option maxRecDepth 100000 in
set_option maxHeartbeats 16000000 in
theorem opened_calls (w : World) {L : LS} {n : Nat} {x : Cl} (h : At w L) (hi : Inv L n) (hn : n ≤ 1000000) (hd : Dat w L.gs x.A x.c x.d) :
    Calls Tryz.prog 18 #[.pointer (some ⟨L.gs, 0, none⟩), x.val] w (RetPage w (L.pure.opened x.pure).list (L.pure.opened x.pure).more) := by
  rw [pure_opened, pure_omore]
  have HA := Lib.hid h
  have HD := Lib.hid hd
  have HI := Lib.hid hi
  have HBS := Lib.hid (((Blk.new w 23 #[.pointer (some ⟨L.gs, 0, none⟩)]).alloc (.cells x.cells 34)).alloc (.cells rep0 43))
  have hz1 : (w.alloc (.cells #[.pointer (some ⟨L.gs, 0, none⟩)] 23)).heap.size = w.heap.size + 1 := by simp
  have hz2 : ((w.alloc (.cells #[.pointer (some ⟨L.gs, 0, none⟩)] 23)).alloc (.cells x.cells 34)).heap.size = w.heap.size + 2 := by simp
  have HBC := (Blk.new (w.alloc (.cells #[.pointer (some ⟨L.gs, 0, none⟩)] 23)) 34 x.cells).alloc (.cells rep0 43)
  have HBR := Blk.new ((w.alloc (.cells #[.pointer (some ⟨L.gs, 0, none⟩)] 23)).alloc (.cells x.cells 34)) 43 rep0
  rw [hz1] at HBC
  rw [hz2] at HBR
  have HBC := Lib.hid HBC
  have HBR := Lib.hid HBR
  have HB1 : Hid (Below w.heap.size w (((w.alloc (.cells #[.pointer (some ⟨L.gs, 0, none⟩)] 23)).alloc (.cells x.cells 34)).alloc (.cells rep0 43))) := Lib.hid ((((Below.refl _ _).alloc (Nat.le_refl _) _).alloc (by omega) _).alloc (by omega) _)
  have e1 : ∀ args w, (callFunc 48 args).run Tryz.prog w = .ok (.enter 48 args) w := enters_of Tryz.func48 (by kernel_rfl) rfl
  have e2 : ∀ args w, (callFunc 50 args).run Tryz.prog w = .ok (.enter 50 args) w := enters_of Tryz.func50 (by kernel_rfl) rfl
  have hln : (L.ups.map fun p => p.1).length ≤ 1000000 := by rw [List.length_map]; exact Nat.le_trans hi.un hn
  generalize hl0 : (L.ups.map fun p => p.1) = l0 at *
  generalize hks : keepF (fun id => decide (id ≤ x.id)) l0 = ks
  have HKS := Lib.hid hks
  have hkl : ks.length ≤ 1000000 := by rw [← hks]; exact Nat.le_trans (keepF_len _ _) hln
  have HL0 := Lib.hid hl0
  clear hl0 hks
  unfold Cl.val
  generalize hxc : x.cells = xc at *
  clear h hd hi hz1 hz2
  go_enter Tryz.func18, Tryz.ntmps18
  unfold rep0 at HBS HBC HBR HB1
  go_upto_region 1 with fail
  generalize ((w.alloc (.cells #[.pointer (some ⟨L.gs, 0, none⟩)] 23)).alloc (.cells xc 34)).alloc (.cells #[.int .i64 0, .slice none 0 0, .int .i64 0, .int .i64 0, .int .i64 0, .slice none 0 0, .bool false] 43) = w1 at *
  have hle1 := HB1.out.size
  have hlt1 := HBR.out.lt
  generalize hg4 : w.heap.size + 2 = g4 at *
  generalize hg3 : w.heap.size + 1 = g3 at *
  generalize hgx : w.heap.size = gx at *
  have x0 : w1.cell? ⟨gx, 0, none⟩ = some (.pointer (some ⟨L.gs, 0, none⟩)) := HBS.out.cell 0
  have HA1 := Lib.hid (HA.out.below (hgx ▸ HB1.out))
  have HD1 := Lib.hid (HD.out.below (hgx ▸ HB1.out))
  have HBY1 := Lib.hid HD1.out.bytes
  have HKC := Lib.hid (uploads_calls w1 HA1.out (by rw [← HL0.out, List.length_map] at hln; exact hln))
  go_wp2_with fail
  refine HKC.out.mono ?_
  rintro e w2 ⟨A2, c2, rfl, hown2, hb2⟩
  have hmap : (L.ups.map fun p => Value.int .i64 p.1) = l0.map (Value.int .i64) := by rw [← HL0.out, List.map_map]; rfl
  rw [hmap] at hown2
  have hlm : L.ups.length = l0.length := by rw [← HL0.out, List.length_map]
  rw [hlm] at hown2 ⊢
  have HT : Hid (Tells w1.heap.size w1 48 #[.pointer (some ⟨g3, 0, none⟩)] (Value.int .i64) (fun id => decide (id ≤ x.id))) := Lib.hid ⟨e1, fun W hW y => opened1_calls W (by rw [hxc]; exact HBC.out.below hW (by omega)) y⟩
  have hdc := deleI_calls w2 hown2 HT.out hb2 hln hb2.size
  rw [HKS.out] at hdc
  have HDC := Lib.hid hdc
  clear hdc hown2 hmap hlm HKC x0 HT
  go_wp2_with fail
  refine HDC.out.mono ?_
  rintro e w3 ⟨A3, rfl, hc3, hr3, hb3⟩
  have hb13 : Below w1.heap.size w1 w3 := hb2.trans hb3
  have HG : Hid (Gives w1.heap.size w1 50 #[.pointer (some ⟨gx, 0, none⟩)] (Value.int .i64) (fun id => ∃ u, mget L.ups id = some u ∧ (Lit.int .i64 id).wf = true) (itW L)) := Lib.hid ⟨e2, fun W hW y hy => (by obtain ⟨u, hu, hid⟩ := hy; have := opened2_calls W (HA1.out.below hW) HI.out hn (HBS.out.below hW (by omega)) hu hid; unfold itW; rw [hu]; exact this)⟩
  have HPC := Lib.hid (pageI_calls w3 HG.out hb13 hb13.size hr3 (fun y hy => (by obtain ⟨p, hp, rfl⟩ := List.mem_map.1 (HL0.out.symm ▸ keepF_mem (HKS.out.symm ▸ hy)); exact ⟨p.2, mget_of_mem HA.out.ndu hp, HA.out.mu.ok p hp⟩)) hc3 hkl)
  clear hr3 HG HDC
  go_wp2_with fail
  refine HPC.out.mono ?_
  rintro e w4 ⟨A4, c4, rfl, hown4, hb4⟩
  have hs13 := hb13.size
  have hb14 : Below w1.heap.size w1 w4 := hb13.trans (hb4.mono hs13)
  have HBR4 := Lib.hid (HBR.out.below hb14 hlt1)
  have HOWN := Lib.hid (own_base hown4 hs13)
  have HB4 := Lib.hid (HB1.out.trans (hb14.mono hle1))
  generalize hln4 : ((ks.take 16).map (itW L)).length = m4 at *
  clear hown4 hb14 hb4 hb13 hb3 hb2 HPC
  unfold pageV
  generalize hbm : decide (16 < ks.length) = bm at *
  have q0 : w4.cell? ⟨g4, 0, none⟩ = some (.int .i64 0) := HBR4.out.cell 0
  have p0 : w4.frozen? ⟨g4, 0, none⟩ = false := HBR4.out.frozen 0
  have q1 : w4.cell? ⟨g4, 1, none⟩ = some (.slice none 0 0) := HBR4.out.cell 1
  have p1 : w4.frozen? ⟨g4, 1, none⟩ = false := HBR4.out.frozen 1
  have q2 : w4.cell? ⟨g4, 2, none⟩ = some (.int .i64 0) := HBR4.out.cell 2
  have p2 : w4.frozen? ⟨g4, 2, none⟩ = false := HBR4.out.frozen 2
  have q3 : w4.cell? ⟨g4, 3, none⟩ = some (.int .i64 0) := HBR4.out.cell 3
  have p3 : w4.frozen? ⟨g4, 3, none⟩ = false := HBR4.out.frozen 3
  have q4 : w4.cell? ⟨g4, 4, none⟩ = some (.int .i64 0) := HBR4.out.cell 4
  have p4 : w4.frozen? ⟨g4, 4, none⟩ = false := HBR4.out.frozen 4
  have q5 : w4.cell? ⟨g4, 5, none⟩ = some (.slice none 0 0) := HBR4.out.cell 5
  have p5 : w4.frozen? ⟨g4, 5, none⟩ = false := HBR4.out.frozen 5
  have q6 : w4.cell? ⟨g4, 6, none⟩ = some (.bool false) := HBR4.out.cell 6
  have p6 : w4.frozen? ⟨g4, 6, none⟩ = false := HBR4.out.frozen 6
  go_wp2
  have hw := set7_blk (v0 := .int .i64 0) (v1 := .slice none 0 0) (v2 := .int .i64 0) (v3 := .int .i64 0) (v4 := .int .i64 0) (v5 := .slice A4 m4 c4) (v6 := .bool bm) HBR4.out
  have hk := set7_keep (w := w4) (g := g4) (v0 := .int .i64 0) (v1 := .slice none 0 0) (v2 := .int .i64 0) (v3 := .int .i64 0) (v4 := .int .i64 0) (v5 := .slice A4 m4 c4) (v6 := .bool bm)
  have hown7 := hk.own HOWN.out (fun i hi e => by omega)
  have hK7 := HB4.out.trans (hk.below (B := gx) (by have := HBR4.out.lt; omega) (fun i e => by omega))
  unfold set7 at hw hown7 hK7
  refine bodyPost_ret (results_cell_row rfl _ _ g4 43 #[.int .i64 0, .slice none 0 0, .int .i64 0, .int .i64 0, .int .i64 0, .slice A4 m4 c4, .bool bm] (0, 0) _ rfl hw Tryz.underlying43 rfl (by kernel_rfl)) rfl ?_
  refine ⟨A4, c4, by first | rfl | (rw [hln4]; rfl) | (rw [hbm]; rfl) | (rw [hln4, hbm]; rfl), ?_, by rw [hgx]; exact hK7⟩
  try rw [hln4]
  exact own_base hown7 (by omega)
end St
end Go.Proofs.YtlljpjehalodfaaGreat
