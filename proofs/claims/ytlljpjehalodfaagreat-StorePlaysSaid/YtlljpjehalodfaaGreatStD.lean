/- An object made (chapter 14). -/
import Derived.Test.YtlljpjehalodfaaGreatProg
import Derived.Test.YtlljpjehalodfaaGreatStBC
namespace Go.Proofs.YtlljpjehalodfaaGreat
open Go.RowKit
namespace St

/-- A reply's cells written. -/
def set7 (w : World) (g : Nat) (v0 v1 v2 v3 v4 v5 v6 : Value) : World :=
  ((((((w.setCell ⟨g, 0, none⟩ v0).setCell ⟨g, 1, none⟩ v1).setCell ⟨g, 2, none⟩ v2).setCell ⟨g, 3, none⟩ v3).setCell ⟨g, 4, none⟩ v4).setCell ⟨g, 5, none⟩ v5).setCell ⟨g, 6, none⟩ v6
def rep0 : Array Value := #[.int .i64 0, .slice none 0 0, .int .i64 0, .int .i64 0, .int .i64 0, .slice none 0 0, .bool false]
section
variable {w : World} {g : Nat} {t : TypeId} {z0 z1 z2 z3 z4 z5 z6 v0 v1 v2 v3 v4 v5 v6 : Value} {L : LS}
theorem set7_blk (h : Blk w g t #[z0, z1, z2, z3, z4, z5, z6]) : Blk (set7 w g v0 v1 v2 v3 v4 v5 v6) g t #[v0, v1, v2, v3, v4, v5, v6] := by
  have h0 : Blk _ g t #[v0, z1, z2, z3, z4, z5, z6] := h.set_ 0 v0
  have h1 : Blk _ g t #[v0, v1, z2, z3, z4, z5, z6] := h0.set_ 1 v1
  have h2 : Blk _ g t #[v0, v1, v2, z3, z4, z5, z6] := h1.set_ 2 v2
  have h3 : Blk _ g t #[v0, v1, v2, v3, z4, z5, z6] := h2.set_ 3 v3
  have h4 : Blk _ g t #[v0, v1, v2, v3, v4, z5, z6] := h3.set_ 4 v4
  have h5 : Blk _ g t #[v0, v1, v2, v3, v4, v5, z6] := h4.set_ 5 v5
  have h6 : Blk _ g t #[v0, v1, v2, v3, v4, v5, v6] := h5.set_ 6 v6
  exact h6
theorem set7_keep : Keep (fun i => i = g) w (set7 w g v0 v1 v2 v3 v4 v5 v6) := by
  have h : Keep (fun i => i = g) w w := Keep.refl _ w
  have h0 := Keep.setCell h (p := ⟨g, 0, none⟩) (.inl (rfl : g = g)) v0
  have h1 := Keep.setCell h0 (p := ⟨g, 1, none⟩) (.inl (rfl : g = g)) v1
  have h2 := Keep.setCell h1 (p := ⟨g, 2, none⟩) (.inl (rfl : g = g)) v2
  have h3 := Keep.setCell h2 (p := ⟨g, 3, none⟩) (.inl (rfl : g = g)) v3
  have h4 := Keep.setCell h3 (p := ⟨g, 4, none⟩) (.inl (rfl : g = g)) v4
  have h5 := Keep.setCell h4 (p := ⟨g, 5, none⟩) (.inl (rfl : g = g)) v5
  have h6 := Keep.setCell h5 (p := ⟨g, 6, none⟩) (.inl (rfl : g = g)) v6
  exact h6
/-- No byte of the store lies in block g. -/
def Off (g : Nat) (A : Option Addr) (d : Bs) : Prop := ∀ b off, A = some ⟨b, off, none⟩ → 0 < d.length → b ≠ g
structure Free (L : LS) (g : Nat) : Prop where
  o : ∀ p ∈ L.objs, Off g p.2.A p.2.d
  u : ∀ p ∈ L.ups, ∀ q ∈ p.2.parts, Off g q.2.A q.2.d
theorem Dat.off {gs c g : Nat} {A : Option Addr} {d : Bs} (h : Dat w gs A c d) (hg : w.heap.size ≤ g) : Off g A d := fun b off e hd e' => by
  obtain ⟨b', off', e1, _, hc⟩ := h.at_ hd
  have hl := (cell_lt (hc 0 (byteV d[0]) (by simp [List.getElem?_eq_getElem hd]))).1
  rw [e] at e1
  injection e1 with e1
  injection e1 with e1
  dsimp only at hl
  omega
theorem At.free (h : At w L) (hg : w.heap.size ≤ g) : Free L g := ⟨fun p hp => (h.od p hp).off hg, fun p hp q hq => (h.ud p hp q hq).off hg⟩
theorem Dat.far {w' : World} {gs c : Nat} {A : Option Addr} {d : Bs} (h : Dat w gs A c d) (ho : Off g A d) (hk : Keep (fun i => i = g) w w') : Dat w' gs A c d := by
  refine ⟨h.len, fun hd => ?_⟩
  obtain ⟨b, off, e, hb, hc⟩ := h.at_ hd
  exact ⟨b, off, e, hb, fun j u hu => hk.cell (hc j u hu) (ho b off e hd)⟩
/-- Another block of cells turns. -/
theorem At.cells (h : At w L) {w' : World} (hk : Keep (fun i => i = g) w w') {cs : Array Value} (hb : Blk w g t cs) (hg : L.gs ≠ g) (hf : Free L g) : At w' L := by
  have hx := h.foot_cells hb (fun e => hg e.symm)
  have hn : ∀ i, L.foot i → ¬ i = g := fun i hi e => hx (e ▸ hi)
  exact ⟨hk.blk h.blk (hn _ (.inl rfl)), hk.map h.mo (hn _ (.inr (.inl rfl))), hk.map h.mu (hn _ (.inr (.inr (.inl rfl)))), fun p hp => (h.od p hp).far (hf.o p hp) hk, fun p hp => hk.map (h.um p hp) (hn _ (.inr (.inr (.inr ⟨p, hp, rfl⟩)))), fun p hp q hq => (h.ud p hp q hq).far (hf.u p hp q hq) hk, h.ne, h.ub, h.one, h.uk⟩
end

theorem blk_ne_map {P : Program} {k : TypeId} {κ β : Type} {K : KeyT P k κ} {ev : β → Value} {w : World} {b g : Nat} {l : List (κ × β)} {t : TypeId} {cs : Array Value} (hb : Blk w g t cs) (h : MapAt K ev w b l) : g ≠ b := fun e => map_not_cells h (e ▸ hb)
noncomputable def LS.made (L : LS) (k : ByteArray) (A : Option Addr) (c : Nat) (d : Bs) : LS :=
  { L with ver := L.ver + 1, all := L.all + ((d.length : Int) - (((mget L.objs k).getD ob0).d.length : Int)), objs := mput kS.lt L.objs k ⟨A, c, d, L.ver + 1, L.now⟩ }
def RetMake (w : World) (L L' : LS) (e : Ending) (w' : World) : Prop := e = .returned (.agg #[.int .i64 0, .slice none 0 0, .int .i64 (L.ver + 1), .int .i64 L.now, .int .i64 0, .slice none 0 0, .bool false]) ∧ At w' L' ∧ Keep L.foot w w'
set_option maxRecDepth 100000 in
set_option maxHeartbeats 3200000 in
theorem make_calls (w : World) {L : LS} {n c : Nat} {A : Option Addr} {d : Bs} {k : ByteArray} (h : At w L) (hi : Inv L n) (hn : n ≤ 1000000) (hd : Dat w L.gs A c d) (hdl : d.length ≤ 262144) (hk : k.size ≤ maxLen) :
    Calls Tryz.prog 40 #[.pointer (some ⟨L.gs, 0, none⟩), .string k, .slice A d.length c] w (RetMake w L (L.made k A c d)) := by
  have HA := Lib.hid h
  have HD := Lib.hid hd
  have HI := Lib.hid hi
  have HU := Lib.hid Tryz.underlying48
  have HOK : Hid ((kS).ok k) := Lib.hid hk
  have c2 := h.c_ver
  have f2 := h.blk.frozen 2
  have hv0 := hi.v0
  have hv1 := hi.v1
  have hgs := h.blk.lt
  have HE := Lib.hid (elimO L.objs k)
  have HMD : Hid (L.made k A c d = { L with ver := L.ver + 1, all := L.all + ((d.length : Int) - (((mget L.objs k).getD ob0).d.length : Int)), objs := mput kS.lt L.objs k ⟨A, c, d, L.ver + 1, L.now⟩ }) := Lib.hid rfl
  generalize L.made k A c d = L' at *
  clear h hd hi
  go_enter Tryz.func40, Tryz.ntmps40
  go_upto_region 2 with fail
  have HI1 := Lib.hid (HA.out.set (i := 2) (u := .int .i64 (L.ver + 1)) (L' := { L with ver := L.ver + 1 }) rfl rfl rfl rfl rfl rfl)
  have HR1 := Lib.hid (Blk.new (w.setCell ⟨L.gs, 2, none⟩ (.int .i64 (L.ver + 1))) 43 rep0)
  have HF1 : Hid (Free L w.heap.size) := Lib.hid (HA.out.free (Nat.le_refl _))
  have HK1 : Hid (Keep L.foot w ((w.setCell ⟨L.gs, 2, none⟩ (.int .i64 (L.ver + 1))).alloc (.cells rep0 43))) := Lib.hid (((Keep.refl _ _).setCell (.inl (.inl rfl)) _).alloc _)
  have HA1 := Lib.hid (HI1.out.alloc (.cells rep0 43))
  have HD1 : Hid (Dat ((w.setCell ⟨L.gs, 2, none⟩ (.int .i64 (L.ver + 1))).alloc (.cells rep0 43)) L.gs A c d) := Lib.hid (HA.out.dat HD.out HK1.out)
  have HO1 : Hid (Off w.heap.size A d) := Lib.hid (HD.out.off (Nat.le_refl _))
  rw [show (w.setCell ⟨L.gs, 2, none⟩ (.int .i64 (L.ver + 1))).heap.size = w.heap.size from by simp] at HR1
  have hs1 : w.heap.size < ((w.setCell ⟨L.gs, 2, none⟩ (.int .i64 (L.ver + 1))).alloc (.cells rep0 43)).heap.size := by simp
  unfold rep0 at HR1 HK1 HA1 HD1 hs1
  generalize (w.setCell ⟨L.gs, 2, none⟩ (.int .i64 (L.ver + 1))).alloc (.cells #[.int .i64 0, .slice none 0 0, .int .i64 0, .int .i64 0, .int .i64 0, .slice none 0 0, .bool false] 43) = w1 at *
  generalize hg4 : w.heap.size = g4 at *
  clear HI1 c2 f2
  have Hkeep : Hid (∀ W, Below w1.heap.size w1 W → W.cell? ⟨L.gs, 2, none⟩ = some (.int .i64 (L.ver + 1)) ∧ W.cell? ⟨L.gs, 4, none⟩ = some (.int .i64 L.now)) := Lib.hid fun W hW => ⟨(HA1.out.below hW).c_ver, (HA1.out.below hW).c_now⟩
  go_region_held3 (fun w' => w'.cell? ⟨L.gs, 2, none⟩ = some (.int .i64 (L.ver + 1)) ∧ w'.cell? ⟨L.gs, 4, none⟩ = some (.int .i64 L.now)) (exact Hkeep.out _ (by first | exact below_drewN_ (Below.refl _ _) 1 | exact ((below_drewN_ (Below.refl _ _) 1).alloc (Nat.le_refl _) _) | exact (((below_drewN_ (Below.refl _ _) 1).alloc (Nat.le_refl _) _).setCell (Nat.le_refl _) _))) (fail)
  all_goals
    have hb2 : Below w1.heap.size w1 (w1.alloc (.cells #[.slice A d.length c, .int .i64 (L.ver + 1), .int .i64 L.now] 53)).drew := below_drewN_ ((Below.refl _ _).alloc (Nat.le_refl _) _) 1
    have HA2 := Lib.hid (HA1.out.below hb2)
    have HD2 := Lib.hid (HD1.out.below hb2)
    have HR2 := Lib.hid (HR1.out.below hb2 hs1)
    have HK2 := Lib.hid (HK1.out.trans (Keep.of_below hb2))
    have HB2 : Hid (Blk (w1.alloc (.cells #[.slice A d.length c, .int .i64 (L.ver + 1), .int .i64 L.now] 53)).drew w1.heap.size 53 #[.slice A d.length c, .int .i64 (L.ver + 1), .int .i64 L.now]) := Lib.hid (Blk.new _ _ _)
    clear hb2 HA1 HD1 HR1 HK1 Hkeep
    generalize (w1.alloc (.cells #[.slice A d.length c, .int .i64 (L.ver + 1), .int .i64 L.now] 53)).drew = w2 at *
    generalize w1.heap.size = g5 at *
    have c0 := HA2.out.c_bo
    have c5 := HA2.out.c_all
    have f5 := HA2.out.blk.frozen 5
    dsimp only at c0 c5 f5
    have hb9 : ((mget L.objs k).getD ob0).d.length ≤ 262144 := by
      cases hm : mget L.objs k with
      | none => exact Nat.zero_le _
      | some o => exact HI.out.od _ (mget_mem hm)
    have hall := HI.out.all
    have hbig := HI.out.big
    generalize (mget L.objs k).getD ob0 = o at *
    have hlk : (Instr.lookup 48 (.map (some L.bo)) (.string k) false).run Tryz.prog w2.drew = .ok (.agg #[.slice o.A o.d.length o.c, .int .i64 o.ver, .int .i64 o.born]) w2.drew := HA2.out.mo.drew.get_at HU.out (zeroO _) HOK.out HE.out
    have r1 : IntKind.i64.wrap ((d.length : Int) - (o.d.length : Int)) = (d.length : Int) - (o.d.length : Int) := by rw [IntKind.wrap_i64]; omega
    have r2 : IntKind.i64.wrap (L.all + ((d.length : Int) - (o.d.length : Int))) = L.all + ((d.length : Int) - (o.d.length : Int)) := by rw [IntKind.wrap_i64]; omega
    go_upto_region 3 with fail
    have hfd : ∀ w : World, (Instr.field 53 (.agg #[.slice o.A o.d.length o.c, .int .i64 o.ver, .int .i64 o.born]) 0).run Tryz.prog w = .ok (.slice o.A o.d.length o.c) w := fun _ => by kernel_rfl
    clear hall hbig
    go_still_tail 18, (by kernel_rfl)
    go_upto_region 4 with fail
    have HA3 := Lib.hid ((HA2.out.set (i := 5) (u := .int .i64 (L.all + ((d.length : Int) - (o.d.length : Int)))) (L' := { L with ver := L.ver + 1, all := L.all + ((d.length : Int) - (o.d.length : Int)) }) rfl rfl rfl rfl rfl rfl).drewN 1)
    have hk3 : Keep L.foot w2 ((w2.setCell ⟨L.gs, 5, none⟩ (.int .i64 (L.all + ((d.length : Int) - (o.d.length : Int))))).drew) := ((Keep.refl _ _).setCell (.inl (.inl rfl)) _).drewN 1
    have HK3 := Lib.hid (HK2.out.trans hk3)
    have HD3 : Hid (Dat _ L.gs A c d) := Lib.hid (HA2.out.dat HD2.out hk3)
    have HR3 := Lib.hid ((HR2.out.far (p := ⟨L.gs, 5, none⟩) (fun e => by dsimp only at e; omega) (.int .i64 (L.all + ((d.length : Int) - (o.d.length : Int))))).drewN 1)
    have HB3 := Lib.hid ((HB2.out.far (p := ⟨L.gs, 5, none⟩) (fun e => by dsimp only at e; omega) (.int .i64 (L.all + ((d.length : Int) - (o.d.length : Int))))).drewN 1)
    clear hk3 hlk HA2 HK2 HD2 HR2 HB2 c0 c5 f5
    change Hid (At (w2.setCell ⟨L.gs, 5, none⟩ (.int .i64 (L.all + ((d.length : Int) - (o.d.length : Int))))).drew _) at HA3
    change Hid (Blk (w2.setCell ⟨L.gs, 5, none⟩ (.int .i64 (L.all + ((d.length : Int) - (o.d.length : Int))))).drew _ _ _) at HR3
    change Hid (Blk (w2.setCell ⟨L.gs, 5, none⟩ (.int .i64 (L.all + ((d.length : Int) - (o.d.length : Int))))).drew _ _ _) at HB3
    generalize (w2.setCell ⟨L.gs, 5, none⟩ (.int .i64 (L.all + ((d.length : Int) - (o.d.length : Int))))).drew = w3 at *
    have c0 : w3.cell? ⟨L.gs, 0, none⟩ = some (.map (some L.bo)) := HA3.out.c_bo
    have t0 : w3.cell? ⟨g5, 0, none⟩ = some (.slice A d.length c) := HB3.out.cell 0
    have t1 : w3.cell? ⟨g5, 1, none⟩ = some (.int .i64 (L.ver + 1)) := HB3.out.cell 1
    have t2 : w3.cell? ⟨g5, 2, none⟩ = some (.int .i64 L.now) := HB3.out.cell 2
    have hon := HI.out.on
    go_still_tail 6, (by kernel_rfl)
    go_wp2_with (at_mapUpdate; go_must (refine wpList_put _ rfl _ _ _ rfl (HA3.out.mo.drewN _) HU.out k (⟨A, c, d, L.ver + 1, L.now⟩ : Ob) rfl rfl rfl HOK.out (by unfold maxLen; dsimp only; omega) ?_))
    intro w4 hm4 hg4' hs4
    have hg4 : w3.grownBy w4 (some L.bo) := ⟨hg4'.os, hg4'.tape, hg4'.output, hg4'.size, hg4'.block⟩
    have hk4 : Keep L.foot w3 w4 := Keep.of_grown hg4 fun i e => by injection e with e; exact .inr (.inl e)
    have HD4 : Dat w4 L.gs A c d := HA3.out.dat HD3.out hk4
    have HA4 : Hid (At w4 L') := Lib.hid (by
      rw [HMD.out]
      refine HA3.out.objs hg4 hm4 fun p hp => ?_
      rcases mput_mem.1 hp with rfl | ⟨hp, _⟩
      · exact HD4
      · exact HA3.out.objs_keep hg4 p hp)
    have HK4 := Lib.hid (HK3.out.trans hk4)
    have hne4 : g4 ≠ L.bo := blk_ne_map HR3.out HA3.out.mo
    have hne5 : g5 ≠ L.bo := blk_ne_map HB3.out HA3.out.mo
    have HR4 := Lib.hid (HR3.out.grown hg4 (fun e => by injection e with e; exact hne4 e))
    have HB4 := Lib.hid (HB3.out.grown hg4 (fun e => by injection e with e; exact hne5 e))
    have HF4 : Hid (Free L' g4) := Lib.hid (by
      rw [HMD.out]
      refine ⟨fun p hp => ?_, HF1.out.u⟩
      rcases mput_mem.1 hp with rfl | ⟨hp, _⟩
      · exact HO1.out
      · exact HF1.out.o p hp)
    have HG4 : Hid (L'.gs = L.gs) := Lib.hid (by rw [HMD.out])
    clear hm4 hg4' hg4 hs4 hk4 HD4 HA3 HK3 HR3 HB3 HD3 c0 t0 t1 t2
    have t1 : w4.cell? ⟨g5, 1, none⟩ = some (.int .i64 (L.ver + 1)) := HB4.out.cell 1
    have t2 : w4.cell? ⟨g5, 2, none⟩ = some (.int .i64 L.now) := HB4.out.cell 2
    have q0 : w4.cell? ⟨g4, 0, none⟩ = some (.int .i64 0) := HR4.out.cell 0
    have p0 : w4.frozen? ⟨g4, 0, none⟩ = false := HR4.out.frozen 0
    have q1 : w4.cell? ⟨g4, 1, none⟩ = some (.slice none 0 0) := HR4.out.cell 1
    have p1 : w4.frozen? ⟨g4, 1, none⟩ = false := HR4.out.frozen 1
    have q2 : w4.cell? ⟨g4, 2, none⟩ = some (.int .i64 0) := HR4.out.cell 2
    have p2 : w4.frozen? ⟨g4, 2, none⟩ = false := HR4.out.frozen 2
    have q3 : w4.cell? ⟨g4, 3, none⟩ = some (.int .i64 0) := HR4.out.cell 3
    have p3 : w4.frozen? ⟨g4, 3, none⟩ = false := HR4.out.frozen 3
    have q4 : w4.cell? ⟨g4, 4, none⟩ = some (.int .i64 0) := HR4.out.cell 4
    have p4 : w4.frozen? ⟨g4, 4, none⟩ = false := HR4.out.frozen 4
    have q5 : w4.cell? ⟨g4, 5, none⟩ = some (.slice none 0 0) := HR4.out.cell 5
    have p5 : w4.frozen? ⟨g4, 5, none⟩ = false := HR4.out.frozen 5
    have q6 : w4.cell? ⟨g4, 6, none⟩ = some (.bool false) := HR4.out.cell 6
    have p6 : w4.frozen? ⟨g4, 6, none⟩ = false := HR4.out.frozen 6
    go_wp2
    have hw := set7_blk (v0 := .int .i64 0) (v1 := .slice none 0 0) (v2 := .int .i64 (L.ver + 1)) (v3 := .int .i64 L.now) (v4 := .int .i64 0) (v5 := .slice none 0 0) (v6 := .bool false) HR4.out
    have hk := set7_keep (w := w4) (g := g4) (v0 := .int .i64 0) (v1 := .slice none 0 0) (v2 := .int .i64 (L.ver + 1)) (v3 := .int .i64 L.now) (v4 := .int .i64 0) (v5 := .slice none 0 0) (v6 := .bool false)
    have hA := HA4.out.cells hk HR4.out (by rw [HG4.out]; omega) HF4.out
    have hK := HK4.out.then hk (fun i hi e => by omega)
    unfold set7 at hw hA hK
    refine bodyPost_ret (results_cell_row rfl _ _ g4 43 #[.int .i64 0, .slice none 0 0, .int .i64 (L.ver + 1), .int .i64 L.now, .int .i64 0, .slice none 0 0, .bool false] (0, 0) _ rfl hw Tryz.underlying43 rfl (by kernel_rfl)) rfl ?_
    exact ⟨rfl, hA, hK⟩
end St
end Go.Proofs.YtlljpjehalodfaaGreat
