/- An upload completed (chapter 14). -/
import Derived.Test.YtlljpjehalodfaaGreatProg
import Derived.Test.YtlljpjehalodfaaGreatStS
namespace Go.Proofs.YtlljpjehalodfaaGreat
open Go.RowKit
namespace St

theorem joinP_none {parts : List (Int × Bs)} {k : Nat} (h : joinP parts k = none) : ∀ m, joinP parts (k + m) = none
  | 0 => h
  | m + 1 => by
    show (match joinP parts (k + m), mget parts (((k + m : Nat) : Int) + 1) with | some a, some b => some (a ++ b) | _, _ => none) = none
    rw [joinP_none h m]
theorem joinP_some {parts : List (Int × Bs)} {k : Nat} {a b : Bs} (h : joinP parts k = some a) (hb : mget parts ((k : Int) + 1) = some b) : joinP parts (k + 1) = some (a ++ b) := by
  show (match joinP parts k, mget parts ((k : Int) + 1) with | some a, some b => some (a ++ b) | _, _ => none) = _
  rw [h, hb]
theorem joinP_miss {parts : List (Int × Bs)} {k : Nat} (hb : mget parts ((k : Int) + 1) = none) : joinP parts (k + 1) = none := by
  show (match joinP parts k, mget parts ((k : Int) + 1) with | some a, some b => some (a ++ b) | _, _ => none) = _
  rw [hb]; cases joinP parts k <;> rfl
theorem closed_foot {L : LS} {id : Int} {u : Up} {i : Nat} (h : (L.closed id u).foot i) : L.foot i := by
  rcases h with h | h | h | ⟨p, hp, h⟩
  · exact .inl h
  · exact .inr (.inl h)
  · exact .inr (.inr (.inl h))
  · exact .inr (.inr (.inr ⟨p, mdel_sub hp, h⟩))
theorem closed_free {L : LS} {id : Int} {u : Up} {g : Nat} (h : Free L g) : Free (L.closed id u) g := ⟨h.o, fun p hp => h.u p (mdel_sub hp)⟩
theorem closed_inv {L : LS} {id : Int} {u : Up} {n : Nat} (h : Inv L n) (hnd : Nd L.ups) (hu : mget L.ups id = some u) : Inv (L.closed id u) n := by
  have e := msum_mdel psum hnd hu
  have ht : (L.closed id u).tot + psum u = L.tot := by
    show msum _ L.objs + msum psum (mdel L.ups id) + psum u = msum _ L.objs + msum psum L.ups
    omega
  refine ⟨?_, by have := h.big; omega, h.od, fun p hp => h.pd p (mdel_sub hp), h.on, Nat.le_trans (mdel_len_le _ _) h.un, fun p hp => h.pn p (mdel_sub hp), h.v0, h.v1, h.i0, h.i1, h.t0, h.t1⟩
  show L.all - (psum u : Int) = _
  rw [h.all]; omega
def joined (u : Up) (x : Cl) : Bs := (joinP u.pure.parts x.n.toNat).getD []
def OkComplete (w : World) (L : LS) (u : Up) (x : Cl) (e : Ending) (w' : World) : Prop :=
  ∃ A c, High w.heap.size A ∧ e = .returned (.agg #[.int .i64 0, .slice none 0 0, .int .i64 (L.ver + 1), .int .i64 L.now, .int .i64 0, .slice none 0 0, .bool false]) ∧ At w' ((L.closed x.id u).made u.key A c (joined u x)) ∧ Keep L.foot w w'
def RetComplete (w : World) (L : LS) (u : Up) (x : Cl) (e : Ending) (w' : World) : Prop :=
  (L.pure.completeE u.pure x.pure ≠ 0 ∧ RetE w L (L.pure.completeE u.pure x.pure) e w') ∨ (L.pure.completeE u.pure x.pure = 0 ∧ OkComplete w L u x e w')
set_option maxRecDepth 100000 in
set_option maxHeartbeats 16000000 in
theorem complete_calls (w : World) {L : LS} {n : Nat} {x : Cl} {u : Up} (h : At w L) (hi : Inv L n) (hn : n ≤ 1000000) (hd : Dat w L.gs x.A x.c x.d) (hu : mget L.ups x.id = some u) (hid : (kI).ok x.id) :
    Calls Tryz.prog 21 #[.pointer (some ⟨L.gs, 0, none⟩), u.val, x.val] w (RetComplete w L u x) := by
  have hmem := mget_mem hu
  have hb0 : Below w.heap.size w (w.alloc (.cells #[.string u.key, .int .i64 u.born, .map (some u.b)] 57)) := (Below.refl _ _).alloc (Nat.le_refl _) _
  have HF := Lib.hid ((Fr.start L.foot (h.below hb0) (hd.below hb0)).back hb0 h.blk.lt)
  have HB0 := Lib.hid (((Blk.new w 57 #[.string u.key, .int .i64 u.born, .map (some u.b)]).alloc (.cells x.cells 34)).alloc (.cells rep0 43))
  have hz : (w.alloc (.cells #[.string u.key, .int .i64 u.born, .map (some u.b)] 57)).heap.size = w.heap.size + 1 := by simp
  rw [hz] at HF
  have HI := Lib.hid hi
  have HU := Lib.hid Tryz.underlying55
  have HUU := Lib.hid hu
  have HID := Lib.hid hid
  have HJX : Hid (joined u x = (joinP u.pure.parts x.n.toNat).getD []) := Lib.hid rfl
  have hgs := h.blk.lt
  have HCE : Hid (L.pure.completeE u.pure x.pure = if x.n < 1 ∨ x.n ≠ (u.parts.length : Int) then 4 else if (joinP u.pure.parts x.n.toNat).isSome = false then 4 else if 262144 < ((joinP u.pure.parts x.n.toNat).getD []).length then 5 else if L.crowded u.key = true then 9 else 0) := Lib.hid (by
    unfold PS.completeE
    have e : u.pure.parts.length = u.parts.length := List.length_map ..
    simp only [pure_crowded, e]
    rfl)
  have hpl := hi.pn _ hmem
  have HPD := Lib.hid (hi.pd _ hmem)
  have hkey := h.uk _ hmem
  have HNU := Lib.hid h.ndu
  have HGP : Hid (∀ k : Int, mget u.pure.parts k = (mget u.parts k).map fun p => p.d) := Lib.hid fun k => mget_map (fun p : Pt => p.d) u.parts k
  unfold RetComplete
  generalize L.pure.completeE u.pure x.pure = CE at *
  have HOKC : Hid (∀ A c e w', High w.heap.size A → e = .returned (.agg #[.int .i64 0, .slice none 0 0, .int .i64 (L.ver + 1), .int .i64 L.now, .int .i64 0, .slice none 0 0, .bool false]) → At w' ((L.closed x.id u).made u.key A c (joined u x)) → Keep L.foot w w' → OkComplete w L u x e w') := Lib.hid fun A c e w' h0 h1 h2 h3 => ⟨A, c, h0, h1, h2, h3⟩
  generalize OkComplete w L u x = OKC at *
  generalize joined u x = jd at *
  generalize hps : u.pure.parts = ps at *
  obtain ⟨kind, key, A, c, d, ver, at_, nn, id⟩ := x
  dsimp only [Cl.val, Cl.cells, Up.val] at *
  clear h hd hi hb0 hz hu hid
  go_enter Tryz.func21, Tryz.ntmps21
  go_upto_region 2 with fail
  unfold rep0 at HF HB0
  generalize ((w.alloc (.cells #[.string u.key, .int .i64 u.born, .map (some u.b)] 57)).alloc (.cells #[.int .i64 kind, .string key, .slice A d.length c, .int .i64 ver, .int .i64 at_, .int .i64 nn, .int .i64 id] 34)).alloc (.cells #[.int .i64 0, .slice none 0 0, .int .i64 0, .int .i64 0, .int .i64 0, .slice none 0 0, .bool false] 43) = w1 at *
  generalize hg4 : w.heap.size + 1 + 1 = g4 at *
  generalize hg3 : w.heap.size + 1 = g3 at *
  generalize hg0 : w.heap.size = g0 at *
  have k5 : w1.cell? ⟨g3, 5, none⟩ = some (.int .i64 nn) := HF.out.call.cell 5
  have u2 : w1.cell? ⟨g0, 2, none⟩ = some (.map (some u.b)) := HB0.out.cell 2
  have hlen := (HF.out.at_.um _ hmem).len_run HU.out 3
  dsimp only at hlen
  have HFF := HF
  have q0 : w1.cell? ⟨g4, 0, none⟩ = some (.int .i64 0) := HFF.out.res.cell 0
  have p0 : w1.frozen? ⟨g4, 0, none⟩ = false := HFF.out.res.frozen 0
  have q1 : w1.cell? ⟨g4, 1, none⟩ = some (.slice none 0 0) := HFF.out.res.cell 1
  have p1 : w1.frozen? ⟨g4, 1, none⟩ = false := HFF.out.res.frozen 1
  have q2 : w1.cell? ⟨g4, 2, none⟩ = some (.int .i64 0) := HFF.out.res.cell 2
  have p2 : w1.frozen? ⟨g4, 2, none⟩ = false := HFF.out.res.frozen 2
  have q3 : w1.cell? ⟨g4, 3, none⟩ = some (.int .i64 0) := HFF.out.res.cell 3
  have p3 : w1.frozen? ⟨g4, 3, none⟩ = false := HFF.out.res.frozen 3
  have q4 : w1.cell? ⟨g4, 4, none⟩ = some (.int .i64 0) := HFF.out.res.cell 4
  have p4 : w1.frozen? ⟨g4, 4, none⟩ = false := HFF.out.res.frozen 4
  have q5 : w1.cell? ⟨g4, 5, none⟩ = some (.slice none 0 0) := HFF.out.res.cell 5
  have p5 : w1.frozen? ⟨g4, 5, none⟩ = false := HFF.out.res.frozen 5
  have q6 : w1.cell? ⟨g4, 6, none⟩ = some (.bool false) := HFF.out.res.cell 6
  have p6 : w1.frozen? ⟨g4, 6, none⟩ = false := HFF.out.res.frozen 6
  by_cases h1 : nn < 1
  · have d1 := dct h1
    have HT : Hid (CE = 4) := Lib.hid (by rw [HCE.out, if_pos (.inl h1)])
    go_wp2
    obtain ⟨hw, hA, hK⟩ := HFF.out.fin (.int .i64 4) (.slice none 0 0) (.int .i64 0) (.int .i64 0) (.int .i64 0) (.slice none 0 0) (.bool false)
    unfold set7 at hw hA hK
    refine bodyPost_ret (results_cell_row rfl _ _ g4 43 #[.int .i64 4, .slice none 0 0, .int .i64 0, .int .i64 0, .int .i64 0, .slice none 0 0, .bool false] (0, 0) _ rfl hw Tryz.underlying43 rfl (by kernel_rfl)) rfl ?_
    exact .inl ⟨by rw [HT.out]; decide, by rw [HT.out]; exact ⟨rfl, hA, hK⟩⟩
  · have d1 := dcf h1
    by_cases h2 : nn ≠ (u.parts.length : Int)
    · have d2 := net h2
      have HT : Hid (CE = 4) := Lib.hid (by rw [HCE.out, if_pos (.inr h2)])
      go_wp2
      obtain ⟨hw, hA, hK⟩ := HFF.out.fin (.int .i64 4) (.slice none 0 0) (.int .i64 0) (.int .i64 0) (.int .i64 0) (.slice none 0 0) (.bool false)
      unfold set7 at hw hA hK
      refine bodyPost_ret (results_cell_row rfl _ _ g4 43 #[.int .i64 4, .slice none 0 0, .int .i64 0, .int .i64 0, .int .i64 0, .slice none 0 0, .bool false] (0, 0) _ rfl hw Tryz.underlying43 rfl (by kernel_rfl)) rfl ?_
      exact .inl ⟨by rw [HT.out]; decide, by rw [HT.out]; exact ⟨rfl, hA, hK⟩⟩
    · have h2 : nn = (u.parts.length : Int) := Decidable.not_not.1 h2
      have d2 := nef h2
      have hcn : (nn.toNat : Int) = nn := Int.toNat_of_nonneg (by omega)
      have HN : Hid (¬ (nn < 1 ∨ nn ≠ (u.parts.length : Int))) := Lib.hid (by rintro (h | h) <;> contradiction)
      have hmx : nn ≤ 1000000 := by omega
      clear d1 h2
      go_upto_region 4 with fail
      clear k5 u2 hlen d2 q0 q1 q2 q3 q4 q5 q6 p0 p1 p2 p3 p4 p5 p6 HFF
      go_wp2
      go_loopw [7, 8] (fun out i wr => ∃ (j : Nat) (dj : Bs), j ≤ nn.toNat ∧ i = .int .i64 ((j : Int) + 1) ∧ wr.ownsRow w1.heap.size 5 1 out dj.length (dj.map byteV) ∧ Hid (joinP ps j = some dj) ∧ dj.length ≤ j * 262144 ∧ Hid (Below w1.heap.size w1 wr)) (fun _ i _ => (nn + 1 - intOf i).toNat)
      case atStart => exact ⟨0, [], Nat.zero_le _, rfl, World.ownsRow_nil _ _ _ _, Lib.hid rfl, Nat.zero_le _, Lib.hid (Below.refl _ _)⟩
      case round =>
        obtain ⟨j, dj, hj, rfl, hown, HJ, hdj, HW⟩ := hrel
        have HOWN := Lib.hid hown
        obtain ⟨AD, cD, rfl, -, -, -⟩ := own_slice hown
        obtain ⟨wi, rfl⟩ : ∃ wi : World, wi = wr := ⟨_, rfl⟩
        clear hown
        have HFF := Lib.hid (HF.out.below HW.out)
        have HBB := Lib.hid (HB0.out.below HW.out HB0.out.lt)
        have k5 : wi.cell? ⟨g3, 5, none⟩ = some (.int .i64 nn) := HFF.out.call.cell 5
        by_cases hlt : j < nn.toNat
        · have d1 : decide ((j : Int) + 1 ≤ nn) = true := dct (by omega)
          have u2 : wi.cell? ⟨g0, 2, none⟩ = some (.map (some u.b)) := HBB.out.cell 2
          have hok1 : (kI).ok ((j : Int) + 1) := wfI (by omega) (by omega)
          cases hm : mget u.parts ((j : Int) + 1) with
          | none =>
            have hlk : (Instr.lookup 55 (.map (some u.b)) (.int .i64 ((j : Int) + 1)) true).run Tryz.prog wi = .ok (.tuple #[.slice none 0 0, .bool false]) wi := (HFF.out.at_.um _ hmem).ask_at HU.out (zeroP _) hok1 (by rw [hm]; rfl) (by rw [hm]; rfl)
            have HT : Hid (CE = 4) := Lib.hid (by
              have h1 : joinP ps (j + 1) = none := joinP_miss (by rw [HGP.out, hm]; rfl)
              have h2 := joinP_none h1 (nn.toNat - (j + 1))
              rw [show j + 1 + (nn.toNat - (j + 1)) = nn.toNat from by omega] at h2
              rw [HCE.out, if_neg HN.out, if_pos (by rw [h2]; rfl)])
            clear hm
            have q0 : wi.cell? ⟨g4, 0, none⟩ = some (.int .i64 0) := HFF.out.res.cell 0
            have p0 : wi.frozen? ⟨g4, 0, none⟩ = false := HFF.out.res.frozen 0
            have q1 : wi.cell? ⟨g4, 1, none⟩ = some (.slice none 0 0) := HFF.out.res.cell 1
            have p1 : wi.frozen? ⟨g4, 1, none⟩ = false := HFF.out.res.frozen 1
            have q2 : wi.cell? ⟨g4, 2, none⟩ = some (.int .i64 0) := HFF.out.res.cell 2
            have p2 : wi.frozen? ⟨g4, 2, none⟩ = false := HFF.out.res.frozen 2
            have q3 : wi.cell? ⟨g4, 3, none⟩ = some (.int .i64 0) := HFF.out.res.cell 3
            have p3 : wi.frozen? ⟨g4, 3, none⟩ = false := HFF.out.res.frozen 3
            have q4 : wi.cell? ⟨g4, 4, none⟩ = some (.int .i64 0) := HFF.out.res.cell 4
            have p4 : wi.frozen? ⟨g4, 4, none⟩ = false := HFF.out.res.frozen 4
            have q5 : wi.cell? ⟨g4, 5, none⟩ = some (.slice none 0 0) := HFF.out.res.cell 5
            have p5 : wi.frozen? ⟨g4, 5, none⟩ = false := HFF.out.res.frozen 5
            have q6 : wi.cell? ⟨g4, 6, none⟩ = some (.bool false) := HFF.out.res.cell 6
            have p6 : wi.frozen? ⟨g4, 6, none⟩ = false := HFF.out.res.frozen 6
            go_wp2
            obtain ⟨hw, hA, hK⟩ := HFF.out.fin (.int .i64 4) (.slice none 0 0) (.int .i64 0) (.int .i64 0) (.int .i64 0) (.slice none 0 0) (.bool false)
            unfold set7 at hw hA hK
            refine bodyPost_ret (results_cell_row rfl _ _ g4 43 #[.int .i64 4, .slice none 0 0, .int .i64 0, .int .i64 0, .int .i64 0, .slice none 0 0, .bool false] (0, 0) _ rfl hw Tryz.underlying43 rfl (by kernel_rfl)) rfl ?_
            exact .inl ⟨by rw [HT.out]; decide, by rw [HT.out]; exact ⟨rfl, hA, hK⟩⟩
          | some p =>
            have hlk : (Instr.lookup 55 (.map (some u.b)) (.int .i64 ((j : Int) + 1)) true).run Tryz.prog wi = .ok (.tuple #[.slice p.A p.d.length p.c, .bool true]) wi := (HFF.out.at_.um _ hmem).ask_at HU.out (zeroP _) hok1 (by rw [hm]; rfl) (by rw [hm]; rfl)
            have HJ2 : Hid (joinP ps (j + 1) = some (dj ++ p.d)) := Lib.hid (joinP_some HJ.out (by rw [HGP.out, hm]; rfl))
            have hpd := HPD.out _ (mget_mem hm)
            dsimp only at hpd
            have HRB := Lib.hid (HFF.out.at_.ud _ hmem _ (mget_mem hm)).bytes.2
            have r1 : IntKind.i64.wrap ((j : Int) + 1 + 1) = (j : Int) + 1 + 1 := by rw [IntKind.wrap_i64]; omega
            have hsz := HW.out.size
            clear hm
            go_wp2_with (at_builtin; go_must (refine wpList_append_sl _ rfl (.tmp 39) (.tmp 40) _ rfl w1.heap.size 5 _ 1 1 Tryz.underlying32 Tryz.infoU8s rfl (by omega) _ _ _ rfl HOWN.out _ p.A p.d.length p.c (p.d.map byteV) rfl HRB.out (byteV_one p.d) (by unfold maxLen; omega) (by omega) hsz ?_))
            intro A4 c4 w4 hc1 hc2 hrd4 hbel4 hown4 _ _
            clear hrd4
            go_wp2
            go_roundw
            case rel => exact ⟨j + 1, dj ++ p.d, by omega, by push_cast; rfl, by rw [List.length_append, List.map_append]; exact hown4, HJ2, by rw [List.length_append]; omega, Lib.hid (HW.out.trans hbel4)⟩
            case measure => simp [intOf]; omega
        · obtain rfl : j = nn.toNat := by omega
          have d1 : decide (((nn.toNat : Nat) : Int) + 1 ≤ nn) = false := dcf (by omega)
          have HJS : Hid ((joinP ps nn.toNat).isSome = false → False) := Lib.hid fun h => by rw [HJ.out] at h; cases h
          have HJD : Hid ((joinP ps nn.toNat).getD [] = dj) := Lib.hid (by rw [HJ.out]; rfl)
          have q0 : wi.cell? ⟨g4, 0, none⟩ = some (.int .i64 0) := HFF.out.res.cell 0
          have p0 : wi.frozen? ⟨g4, 0, none⟩ = false := HFF.out.res.frozen 0
          have q1 : wi.cell? ⟨g4, 1, none⟩ = some (.slice none 0 0) := HFF.out.res.cell 1
          have p1 : wi.frozen? ⟨g4, 1, none⟩ = false := HFF.out.res.frozen 1
          have q2 : wi.cell? ⟨g4, 2, none⟩ = some (.int .i64 0) := HFF.out.res.cell 2
          have p2 : wi.frozen? ⟨g4, 2, none⟩ = false := HFF.out.res.frozen 2
          have q3 : wi.cell? ⟨g4, 3, none⟩ = some (.int .i64 0) := HFF.out.res.cell 3
          have p3 : wi.frozen? ⟨g4, 3, none⟩ = false := HFF.out.res.frozen 3
          have q4 : wi.cell? ⟨g4, 4, none⟩ = some (.int .i64 0) := HFF.out.res.cell 4
          have p4 : wi.frozen? ⟨g4, 4, none⟩ = false := HFF.out.res.frozen 4
          have q5 : wi.cell? ⟨g4, 5, none⟩ = some (.slice none 0 0) := HFF.out.res.cell 5
          have p5 : wi.frozen? ⟨g4, 5, none⟩ = false := HFF.out.res.frozen 5
          have q6 : wi.cell? ⟨g4, 6, none⟩ = some (.bool false) := HFF.out.res.cell 6
          have p6 : wi.frozen? ⟨g4, 6, none⟩ = false := HFF.out.res.frozen 6
          by_cases hlong : 262144 < dj.length
          · have d2 : decide ((262144 : Int) < (dj.length : Int)) = true := dct (by omega)
            have HT : Hid (CE = 5) := Lib.hid (by rw [HCE.out, if_neg HN.out, if_neg HJS.out, HJD.out, if_pos hlong])
            go_wp2
            obtain ⟨hw, hA, hK⟩ := HFF.out.fin (.int .i64 5) (.slice none 0 0) (.int .i64 0) (.int .i64 0) (.int .i64 0) (.slice none 0 0) (.bool false)
            unfold set7 at hw hA hK
            refine bodyPost_ret (results_cell_row rfl _ _ g4 43 #[.int .i64 5, .slice none 0 0, .int .i64 0, .int .i64 0, .int .i64 0, .slice none 0 0, .bool false] (0, 0) _ rfl hw Tryz.underlying43 rfl (by kernel_rfl)) rfl ?_
            exact .inl ⟨by rw [HT.out]; decide, by rw [HT.out]; exact ⟨rfl, hA, hK⟩⟩
          · have d2 : decide ((262144 : Int) < (dj.length : Int)) = false := dcf (by omega)
            have u0 : wi.cell? ⟨g0, 0, none⟩ = some (.string u.key) := HBB.out.cell 0
            have HCR := Lib.hid (crowded_calls wi HFF.out.at_ hkey (Nat.le_trans HI.out.on hn))
            have HT0 : Hid (L.crowded u.key = true → CE = 9) := Lib.hid fun h => by rw [HCE.out, if_neg HN.out, if_neg HJS.out, HJD.out, if_neg hlong, if_pos h]
            have HT1 : Hid (¬ L.crowded u.key = true → CE = 0) := Lib.hid fun h => by rw [HCE.out, if_neg HN.out, if_neg HJS.out, HJD.out, if_neg hlong, if_neg h]
            go_wp2_with fail
            refine HCR.out.mono ?_
            rintro e w5 ⟨rfl, hb5⟩
            have HFF := Lib.hid (HFF.out.below hb5)
            have HBB := Lib.hid (HBB.out.below hb5 HBB.out.lt)
            have HOWN := Lib.hid (own_below HOWN.out hb5)
            clear q0 q1 q2 q3 q4 q5 q6 p0 p1 p2 p3 p4 p5 p6 u0 HCR k5
            cases hcr : L.crowded u.key with
            | true =>
              have HT := Lib.hid (HT0.out hcr)
              have q0 : w5.cell? ⟨g4, 0, none⟩ = some (.int .i64 0) := HFF.out.res.cell 0
              have p0 : w5.frozen? ⟨g4, 0, none⟩ = false := HFF.out.res.frozen 0
              have q1 : w5.cell? ⟨g4, 1, none⟩ = some (.slice none 0 0) := HFF.out.res.cell 1
              have p1 : w5.frozen? ⟨g4, 1, none⟩ = false := HFF.out.res.frozen 1
              have q2 : w5.cell? ⟨g4, 2, none⟩ = some (.int .i64 0) := HFF.out.res.cell 2
              have p2 : w5.frozen? ⟨g4, 2, none⟩ = false := HFF.out.res.frozen 2
              have q3 : w5.cell? ⟨g4, 3, none⟩ = some (.int .i64 0) := HFF.out.res.cell 3
              have p3 : w5.frozen? ⟨g4, 3, none⟩ = false := HFF.out.res.frozen 3
              have q4 : w5.cell? ⟨g4, 4, none⟩ = some (.int .i64 0) := HFF.out.res.cell 4
              have p4 : w5.frozen? ⟨g4, 4, none⟩ = false := HFF.out.res.frozen 4
              have q5 : w5.cell? ⟨g4, 5, none⟩ = some (.slice none 0 0) := HFF.out.res.cell 5
              have p5 : w5.frozen? ⟨g4, 5, none⟩ = false := HFF.out.res.frozen 5
              have q6 : w5.cell? ⟨g4, 6, none⟩ = some (.bool false) := HFF.out.res.cell 6
              have p6 : w5.frozen? ⟨g4, 6, none⟩ = false := HFF.out.res.frozen 6
              go_wp2
              obtain ⟨hw, hA, hK⟩ := HFF.out.fin (.int .i64 9) (.slice none 0 0) (.int .i64 0) (.int .i64 0) (.int .i64 0) (.slice none 0 0) (.bool false)
              unfold set7 at hw hA hK
              refine bodyPost_ret (results_cell_row rfl _ _ g4 43 #[.int .i64 9, .slice none 0 0, .int .i64 0, .int .i64 0, .int .i64 0, .slice none 0 0, .bool false] (0, 0) _ rfl hw Tryz.underlying43 rfl (by kernel_rfl)) rfl ?_
              exact .inl ⟨by rw [HT.out]; decide, by rw [HT.out]; exact ⟨rfl, hA, hK⟩⟩
            | false =>
              have HT := Lib.hid (HT1.out (by rw [hcr]; decide))
              have k6 : w5.cell? ⟨g3, 6, none⟩ = some (.int .i64 id) := HFF.out.call.cell 6
              go_wp2_with fail
              refine (close_calls w5 HFF.out.at_ HI.out hn HUU.out HID.out).mono ?_
              rintro e w6 ⟨rfl, hA6, hK6⟩
              have HF6 := Lib.hid (HFF.out.turn hA6 hK6 (fun _ _ h => h) rfl (closed_free HFF.out.free))
              have hg0n : ¬ L.foot g0 := HFF.out.at_.foot_cells HBB.out (by omega)
              have HB6 := Lib.hid (hK6.blk HBB.out hg0n)
              have hs1 := HF.out.at_.blk.lt
              have HD6 : Hid (Dat w6 L.gs AD cD dj) := Lib.hid (HFF.out.at_.dat (Dat.of_own HOWN.out hs1) hK6)
              have HHI : Hid (High g0 AD) := Lib.hid (High.own HOWN.out (by have := HF.out.keep.size; omega))
              have HO6 : Hid (Off g4 AD dj) := Lib.hid (Dat.offg (Dat.of_own HOWN.out HF.out.res.lt))
              clear HFF HBB HOWN hA6 hK6 k6 hg0n
              have u0 : w6.cell? ⟨g0, 0, none⟩ = some (.string u.key) := HB6.out.cell 0
              have HI6 := Lib.hid (closed_inv HI.out HNU.out HUU.out)
              go_wp2_with fail
              refine (make_calls w6 HF6.out.at_ HI6.out hn HD6.out (by omega) hkey).mono ?_
              rintro e w7 ⟨rfl, hA7, hK7⟩
              have HF7 := Lib.hid (HF6.out.turn hA7 hK7 (fun _ _ h => closed_foot h) rfl (by
                refine ⟨fun p hp => ?_, HF6.out.free.u⟩
                rcases mput_mem.1 hp with rfl | ⟨hp, _⟩
                · exact HO6.out
                · exact HF6.out.free.o p hp))
              have HJ7 : Hid (jd = dj) := Lib.hid (by rw [HJX.out, HJD.out])
              clear hA7 hK7 HF6 HB6 HD6 HO6 u0
              have q0 : w7.cell? ⟨g4, 0, none⟩ = some (.int .i64 0) := HF7.out.res.cell 0
              have p0 : w7.frozen? ⟨g4, 0, none⟩ = false := HF7.out.res.frozen 0
              have q1 : w7.cell? ⟨g4, 1, none⟩ = some (.slice none 0 0) := HF7.out.res.cell 1
              have p1 : w7.frozen? ⟨g4, 1, none⟩ = false := HF7.out.res.frozen 1
              have q2 : w7.cell? ⟨g4, 2, none⟩ = some (.int .i64 0) := HF7.out.res.cell 2
              have p2 : w7.frozen? ⟨g4, 2, none⟩ = false := HF7.out.res.frozen 2
              have q3 : w7.cell? ⟨g4, 3, none⟩ = some (.int .i64 0) := HF7.out.res.cell 3
              have p3 : w7.frozen? ⟨g4, 3, none⟩ = false := HF7.out.res.frozen 3
              have q4 : w7.cell? ⟨g4, 4, none⟩ = some (.int .i64 0) := HF7.out.res.cell 4
              have p4 : w7.frozen? ⟨g4, 4, none⟩ = false := HF7.out.res.frozen 4
              have q5 : w7.cell? ⟨g4, 5, none⟩ = some (.slice none 0 0) := HF7.out.res.cell 5
              have p5 : w7.frozen? ⟨g4, 5, none⟩ = false := HF7.out.res.frozen 5
              have q6 : w7.cell? ⟨g4, 6, none⟩ = some (.bool false) := HF7.out.res.cell 6
              have p6 : w7.frozen? ⟨g4, 6, none⟩ = false := HF7.out.res.frozen 6
              go_wp2
              obtain ⟨hw, hA, hK⟩ := HF7.out.fin (.int .i64 0) (.slice none 0 0) (.int .i64 (L.ver + 1)) (.int .i64 L.now) (.int .i64 0) (.slice none 0 0) (.bool false)
              unfold set7 at hw hA hK
              refine bodyPost_ret (results_cell_row rfl _ _ g4 43 #[.int .i64 0, .slice none 0 0, .int .i64 (L.ver + 1), .int .i64 L.now, .int .i64 0, .slice none 0 0, .bool false] (0, 0) _ rfl hw Tryz.underlying43 rfl (by kernel_rfl)) rfl ?_
              exact .inr ⟨HT.out, HOKC.out AD cD _ _ HHI.out rfl (by rw [HJ7.out]; exact hA) hK⟩
end St
end Go.Proofs.YtlljpjehalodfaaGreat
