/- The text of a store: the walk (chapter 14). -/
import Derived.Test.YtlljpjehalodfaaProg
import Derived.Test.YtlljpjehalodfaaSaF
import Derived.Test.YtlljpjehalodfaaSaP
namespace Go.Proofs.Ytlljpjehalodfaa
open Go.RowKit
namespace St

theorem partO_size {k : ByteArray} {o : PO} (hk : k.size ≤ 40) (ho : o.d.length ≤ 262144) : (partO k o).size ≤ 300000 := by
  unfold partO
  simp only [app_size, bz_size]
  have h1 := uB_size o.ver
  have h2 := uB_size o.born
  have h3 := uB_size (o.d.length : Int)
  have h4 : (⟨#[0]⟩ : ByteArray).size = 1 := rfl
  omega
theorem partU_size {id : Int} {u : PU} (hk : u.key.size ≤ 40) : (partU id u).size ≤ 100 := by
  unfold partU
  simp only [app_size]
  have h1 := uB_size id
  have h2 := uB_size (u.sum : Int)
  have h4 : (⟨#[1]⟩ : ByteArray).size = 1 := rfl
  omega
theorem dumpU_snoc (t : ByteArray) (l : List (Int × PU)) (p : Int × PU) : dumpU t (l ++ [p]) = dumpU t l ++ partU p.1 p.2 := by unfold dumpU; rw [List.foldl_append]; rfl
theorem dumpO_snoc (l : List (ByteArray × PO)) (p : ByteArray × PO) : dumpO (l ++ [p]) = dumpO l ++ partO p.1 p.2 := by unfold dumpO; rw [List.foldl_append]; rfl
set_option maxRecDepth 100000 in
set_option maxHeartbeats 16000000 in
theorem dump_calls (w0 w : World) {g n : Nat} {L : LS} (hv : Liv w0 w g L n) (hj : PJ L.pure) (hn : n ≤ 1000) :
    Calls Try.prog 18 #[.pointer (some ⟨g, 0, none⟩)] w fun e w' => e = .returned (.string L.pure.dump) ∧ Below w.heap.size w w' := by
  have HV := Lib.hid hv
  have HJ := Lib.hid hj
  have HKC := Lib.hid (keys_calls w hv.at_ (Nat.le_trans hv.inv.inv.on (by omega)))
  rw [hv.gs] at HKC
  have hon := hv.inv.inv.on
  clear hv hj
  go_enter Try.func18, Try.ntmps18
  go_wp2_with fail
  refine HKC.out.mono ?_
  rintro e w1 ⟨Ak, ck, rfl, hown1, hb1⟩
  have HK1 := Lib.hid hown1
  have HB1 := Lib.hid hb1
  have hs1 := hb1.size
  clear hown1 hb1 HKC
  go_wp2
  go_loopw [3, 13] (fun t i wr => ∃ (q : Nat) (T : ByteArray), q ≤ L.objs.length ∧ i = .int .i64 (q : Int) ∧ t = .string T ∧ T.size ≤ q * 300000 ∧ Hid (T = dumpO (L.pure.objs.take q)) ∧ Hid (Below w1.heap.size w1 wr)) (fun _ i _ => L.objs.length - (intOf i).toNat)
  case atStart => exact ⟨0, ⟨#[]⟩, Nat.zero_le _, rfl, rfl, Nat.le_refl _, Lib.hid rfl, Lib.hid (Below.refl _ _)⟩
  case round =>
    obtain ⟨q, T, hq, rfl, rfl, hT, HT, HW⟩ := hrel
    obtain ⟨wi, rfl⟩ : ∃ wi : World, wi = wr := ⟨_, rfl⟩
    have hsi := HW.out.size
    have HVi := Lib.hid (HV.out.on (HB1.out.trans (HW.out.mono hs1)))
    by_cases hlt : q < L.objs.length
    · have d1 : decide ((q : Int) < (L.objs.length : Int)) = true := dct (by omega)
      obtain ⟨b, off, rfl, hbB, hcell⟩ := (Reads.of_own (own_below HK1.out HW.out)).2 (by omega : 0 < L.objs.length)
      have x0 := hcell q (.string L.objs[q].1) (by rw [List.getElem?_map, List.getElem?_eq_getElem hlt]; rfl)
      have hok := HVi.out.at_.mo.ok _ (List.getElem_mem hlt)
      have hm : (L.objs[q].1, L.objs[q].2) ∈ L.objs := List.getElem_mem hlt
      have ho : mget L.pure.objs L.objs[q].1 = some L.objs[q].2.pure := by rw [pure_get, mget_of_mem HVi.out.at_.ndo hm]; rfl
      have HG := Lib.hid (get_live wi HVi.out.at_ HVi.out.inv (by omega) hok ho)
      rw [HVi.out.gs] at HG
      have hks := right_size (HVi.out.inv.ok _ (mem_pure_o hm))
      have hds := HVi.out.inv.od _ (mem_pure_o hm)
      have hql : q < L.pure.objs.length := by show q < (L.objs.map _).length; rw [List.length_map]; exact hlt
      have HT2 : Hid (dumpO (L.pure.objs.take (q + 1)) = T ++ partO L.objs[q].1 L.objs[q].2.pure) := Lib.hid (by
        rw [List.take_succ_eq_append_getElem hql, dumpO_snoc, ← HT.out]
        have : L.pure.objs[q] = (L.objs[q].1, L.objs[q].2.pure) := List.getElem_map ..
        rw [this])
      have hps := partO_size (k := L.objs[q].1) (o := L.objs[q].2.pure) hks hds
      have hi0 : (0 : Int) ≤ (q : Int) := by omega
      have hi1 : (q : Int) < (L.objs.length : Int) := by omega
      change Hid (Calls _ _ _ _ fun e w' => ∃ A c Al cl, e = .returned (.agg #[.int .i64 0, .slice A L.objs[q].2.d.length c, .int .i64 L.objs[q].2.ver, .int .i64 L.objs[q].2.born, .int .i64 0, .slice Al 0 cl, .bool false]) ∧ w'.ownsRow wi.heap.size 5 1 (.slice A L.objs[q].2.d.length c) L.objs[q].2.d.length (L.objs[q].2.d.map byteV) ∧ At w' L ∧ Below wi.heap.size wi w') at HG
      dsimp only [Ob.pure] at hds hks
      unfold partO Ob.pure at HT2 hps
      dsimp only at HT2 hps
      clear hcell hm ho hok HT
      generalize L.objs[q] = ob at *
      obtain ⟨key, ob⟩ := ob
      dsimp only at *
      go_wp2_with fail
      refine HG.out.mono ?_
      rintro e w5 ⟨A5, c5, Al5, cl5, rfl, hown5, -, hK5⟩
      have HW5 := Lib.hid (HW.out.trans (hK5.mono hsi))
      have HD5 := Lib.hid hown5
      have hs5 := HW5.out.size
      clear hK5 hown5 HG HW x0
      go_upto_region 6 with fail
      have HW6 := Lib.hid (HW5.out.alloc hs5 (.cells #[.int .i64 0, .slice A5 ob.d.length c5, .int .i64 ob.ver, .int .i64 ob.born, .int .i64 0, .slice Al5 0 cl5, .bool false] 36))
      have HB6 := Lib.hid (Blk.new w5 36 #[.int .i64 0, .slice A5 ob.d.length c5, .int .i64 ob.ver, .int .i64 ob.born, .int .i64 0, .slice Al5 0 cl5, .bool false])
      have HD6 := Lib.hid (own_below HD5.out ((Below.refl _ _).alloc (Nat.le_refl _) (.cells #[.int .i64 0, .slice A5 ob.d.length c5, .int .i64 ob.ver, .int .i64 ob.born, .int .i64 0, .slice Al5 0 cl5, .bool false] 36)))
      clear HW5 HD5 HVi
      generalize w5.alloc (.cells #[.int .i64 0, .slice A5 ob.d.length c5, .int .i64 ob.ver, .int .i64 ob.born, .int .i64 0, .slice Al5 0 cl5, .bool false] 36) = w6 at *
      generalize w5.heap.size = g6 at *
      have Hk6 : Hid (∀ W, Below w6.heap.size w6 W → W.cell? ⟨g6, 1, none⟩ = some (.slice A5 ob.d.length c5) ∧ W.cell? ⟨g6, 2, none⟩ = some (.int .i64 ob.ver) ∧ W.cell? ⟨g6, 3, none⟩ = some (.int .i64 ob.born) ∧ (convert 28 9 (.slice A5 ob.d.length c5)).run Try.prog W = .ok (.string (bz ob.d)) W) := Lib.hid fun W hW => ⟨(HB6.out.below hW HB6.out.lt).cell 1, (HB6.out.below hW HB6.out.lt).cell 2, (HB6.out.below hW HB6.out.lt).cell 3, ((own_bytes HD6.out).to hW (Nat.le_refl _)).conv Try.prog c5 28 5 9 Try.underlying28 Try.underlying5 Try.underlying9⟩
      refine wp_region_T 99 (fun w' => w'.cell? ⟨g6, 1, none⟩ = some (.slice A5 ob.d.length c5) ∧ w'.cell? ⟨g6, 2, none⟩ = some (.int .i64 ob.ver) ∧ w'.cell? ⟨g6, 3, none⟩ = some (.int .i64 ob.born) ∧ (convert 28 9 (.slice A5 ob.d.length c5)).run Try.prog w' = .ok (.string (bz ob.d)) w') (by kernel_rfl) (Hk6.out _ (below_drewN_ (Below.refl _ _) 1)) (fun hHeld => ?_)
      have hz0 : (⟨#[0]⟩ : ByteArray).size = 1 := rfl
      have hu1 := uB_size ob.ver
      have hu2 := uB_size ob.born
      have hu3 := uB_size (ob.d.length : Int)
      refine wpAnyT_take (i := 0) (oi := _) (v := ?_) rfl (by kernel_rfl) (fun _ _ _ h => h) (Or.inl ⟨by kernel_rfl, ?_⟩) (by assumption) ?_; rotate_left; (focus (intro w hSw; (try dsimp only at hSw); go_simp; (try with_reducible rfl))); (try simp only [Act.put, List.getElem_toArray, List.getElem_cons_zero, List.setIfInBounds_toArray, List.set_cons_zero, List.set_cons_succ])
      refine wpAnyT_take (i := 1) (oi := _) (v := ?_) rfl (by kernel_rfl) (fun _ _ _ h => h) (Or.inl ⟨by kernel_rfl, ?_⟩) (by assumption) ?_; rotate_left; (focus (intro w hSw; (try dsimp only at hSw); go_simp; (try with_reducible rfl))); (try simp only [Act.put, List.getElem_toArray, List.getElem_cons_zero, List.getElem_cons_succ, List.setIfInBounds_toArray, List.set_cons_zero, List.set_cons_succ])
      refine wpAnyT_take (i := 2) (oi := _) (v := ?_) rfl (by kernel_rfl) (fun _ _ _ h => h) (Or.inl ⟨by kernel_rfl, ?_⟩) (by assumption) ?_; rotate_left; (focus (intro w hSw; (try dsimp only at hSw); go_simp; rw [if_neg (by (try simp only [ByteArray.size_append]); (try simp only [bz_size]); omega)])); (try simp only [Act.put, List.getElem_toArray, List.getElem_cons_zero, List.getElem_cons_succ, List.setIfInBounds_toArray, List.set_cons_zero, List.set_cons_succ])
      refine wpAnyT_take (i := 3) (oi := _) (v := ?_) rfl (by kernel_rfl) (fun _ _ _ h => h) (Or.inl ⟨by kernel_rfl, ?_⟩) (by assumption) ?_; rotate_left; (focus (intro w hSw; (try dsimp only at hSw); go_simp; (try with_reducible rfl))); (try simp only [Act.put, List.getElem_toArray, List.getElem_cons_zero, List.getElem_cons_succ, List.setIfInBounds_toArray, List.set_cons_zero, List.set_cons_succ])
      refine wpAnyT_take (i := 4) (oi := _) (v := ?_) rfl (by kernel_rfl) (fun _ _ _ h => h) (Or.inl ⟨by kernel_rfl, ?_⟩) (by assumption) ?_; rotate_left; (focus (intro w hSw; (try dsimp only at hSw); go_simp; (try with_reducible rfl))); (try simp only [Act.put, List.getElem_toArray, List.getElem_cons_zero, List.getElem_cons_succ, List.setIfInBounds_toArray, List.set_cons_zero, List.set_cons_succ])
      refine wpAnyT_take (i := 5) (oi := _) (v := ?_) rfl (by kernel_rfl) (fun _ _ _ h => h) (Or.inl ⟨by kernel_rfl, ?_⟩) (by assumption) ?_; rotate_left; (focus (intro w hSw; (try dsimp only at hSw); go_simp; (try with_reducible rfl))); (try simp only [Act.put, List.getElem_toArray, List.getElem_cons_zero, List.getElem_cons_succ, List.setIfInBounds_toArray, List.set_cons_zero, List.set_cons_succ])
      refine wpAnyT_take (i := 9) (oi := _) (v := ?_) rfl (by kernel_rfl) (fun _ _ _ h => h) (Or.inl ⟨by kernel_rfl, ?_⟩) (by assumption) ?_; rotate_left; (focus (intro w hSw; (try dsimp only at hSw); go_simp; (try with_reducible rfl))); (try simp only [Act.put, List.getElem_toArray, List.getElem_cons_zero, List.getElem_cons_succ, List.setIfInBounds_toArray, List.set_cons_zero, List.set_cons_succ])
      refine wpAnyT_take (i := 10) (oi := _) (v := ?_) rfl (by kernel_rfl) (fun _ _ _ h => h) (Or.inl ⟨by kernel_rfl, ?_⟩) (by assumption) ?_; rotate_left; (focus (intro w hSw; (try dsimp only at hSw); go_simp; (try with_reducible rfl))); (try simp only [Act.put, List.getElem_toArray, List.getElem_cons_zero, List.getElem_cons_succ, List.setIfInBounds_toArray, List.set_cons_zero, List.set_cons_succ])
      refine wpAnyT_take (i := 11) (oi := _) (v := ?_) rfl (by kernel_rfl) (fun _ _ _ h => h) (Or.inl ⟨by kernel_rfl, ?_⟩) (by assumption) ?_; rotate_left; (focus (intro w hSw; (try dsimp only at hSw); go_simp; (try with_reducible rfl))); (try simp only [Act.put, List.getElem_toArray, List.getElem_cons_zero, List.getElem_cons_succ, List.setIfInBounds_toArray, List.set_cons_zero, List.set_cons_succ])
      refine wpAnyT_take (i := 15) (oi := _) (v := ?_) rfl (by kernel_rfl) (fun _ _ _ h => h) (Or.inl ⟨by kernel_rfl, ?_⟩) (by assumption) ?_; rotate_left; (focus (intro w hSw; (try dsimp only at hSw); go_simp; (try with_reducible rfl))); (try simp only [Act.put, List.getElem_toArray, List.getElem_cons_zero, List.getElem_cons_succ, List.setIfInBounds_toArray, List.set_cons_zero, List.set_cons_succ])
      refine wpAnyT_take (i := 16) (oi := _) (v := ?_) rfl (by kernel_rfl) (fun _ _ _ h => h) (Or.inl ⟨by kernel_rfl, ?_⟩) (by assumption) ?_; rotate_left; (focus (intro w hSw; (try dsimp only at hSw); go_simp; (try with_reducible rfl))); (try simp only [Act.put, List.getElem_toArray, List.getElem_cons_zero, List.getElem_cons_succ, List.setIfInBounds_toArray, List.set_cons_zero, List.set_cons_succ])
      refine wpAnyT_take (i := 17) (oi := _) (v := ?_) rfl (by kernel_rfl) (fun _ _ _ h => h) (Or.inl ⟨by kernel_rfl, ?_⟩) (by assumption) ?_; rotate_left; (focus (intro w hSw; (try dsimp only at hSw); go_simp; (try with_reducible rfl))); (try simp only [Act.put, List.getElem_toArray, List.getElem_cons_zero, List.getElem_cons_succ, List.setIfInBounds_toArray, List.set_cons_zero, List.set_cons_succ])
      refine wpAnyT_take (i := 18) (oi := _) (v := ?_) rfl (by kernel_rfl) (fun _ _ _ h => h) (Or.inl ⟨by kernel_rfl, ?_⟩) (by assumption) ?_; rotate_left; (focus (intro w hSw; (try dsimp only at hSw); go_simp; (try with_reducible rfl))); (try simp only [Act.put, List.getElem_toArray, List.getElem_cons_zero, List.getElem_cons_succ, List.setIfInBounds_toArray, List.set_cons_zero, List.set_cons_succ])
      refine wpAnyT_take (i := 22) (oi := _) (v := ?_) rfl (by kernel_rfl) (fun _ _ _ h => h) (Or.inl ⟨by kernel_rfl, ?_⟩) (by assumption) ?_; rotate_left; (focus (intro w hSw; (try dsimp only at hSw); go_simp; (try with_reducible rfl))); (try simp only [Act.put, List.getElem_toArray, List.getElem_cons_zero, List.getElem_cons_succ, List.setIfInBounds_toArray, List.set_cons_zero, List.set_cons_succ])
      refine wpAnyT_take (i := 23) (oi := _) (v := ?_) rfl (by kernel_rfl) (fun _ _ _ h => h) (Or.inl ⟨by kernel_rfl, ?_⟩) (by assumption) ?_; rotate_left; (focus (intro w hSw; (try dsimp only at hSw); go_simp; (try with_reducible rfl))); (try simp only [Act.put, List.getElem_toArray, List.getElem_cons_zero, List.getElem_cons_succ, List.setIfInBounds_toArray, List.set_cons_zero, List.set_cons_succ])
      refine wpAnyT_take (i := 24) (oi := _) (v := ?_) rfl (by kernel_rfl) (fun _ _ _ h => h) (Or.inl ⟨by kernel_rfl, ?_⟩) (by assumption) ?_; rotate_left; (focus (intro w hSw; (try dsimp only at hSw); go_simp; (try with_reducible rfl))); (try simp only [Act.put, List.getElem_toArray, List.getElem_cons_zero, List.getElem_cons_succ, List.setIfInBounds_toArray, List.set_cons_zero, List.set_cons_succ])
      refine wpAnyT_one (i := 6) (by kernel_rfl) rfl (fun K hK => ?_); go_simp
      refine (putN_calls _ ob.ver).mono ?_
      rintro e w7 ⟨A7, c7, rfl, hcv7, hb7'⟩
      have hb7 : Below w6.heap.size w6 w7 := (below_drewN_ (Below.refl _ _) 1).trans hb7'
      have hH7 := Hk6.out _ hb7
      refine hK.out _ _ (fun _ => hH7) ?_
      clear hK K hHeld
      (try simp only [Act.put, List.getElem_toArray, List.getElem_cons_zero, List.getElem_cons_succ, List.setIfInBounds_toArray, List.set_cons_zero, List.set_cons_succ])
      have Hk7 : Hid (∀ W, Below w7.heap.size w7 W → (W.cell? ⟨g6, 1, none⟩ = some (.slice A5 ob.d.length c5) ∧ W.cell? ⟨g6, 2, none⟩ = some (.int .i64 ob.ver) ∧ W.cell? ⟨g6, 3, none⟩ = some (.int .i64 ob.born) ∧ (convert 28 9 (.slice A5 ob.d.length c5)).run Try.prog W = .ok (.string (bz ob.d)) W) ∧ (convert 28 9 (.slice A7 (putU (uN ob.ver)).length c7)).run Try.prog W = .ok (.string (uB ob.ver)) W) := Lib.hid fun W hW => ⟨Hk6.out _ (hb7.trans (hW.mono hb7.size)), hcv7 W hW⟩
      refine wpAnyT_more (S' := fun W => (W.cell? ⟨g6, 1, none⟩ = some (.slice A5 ob.d.length c5) ∧ W.cell? ⟨g6, 2, none⟩ = some (.int .i64 ob.ver) ∧ W.cell? ⟨g6, 3, none⟩ = some (.int .i64 ob.born) ∧ (convert 28 9 (.slice A5 ob.d.length c5)).run Try.prog W = .ok (.string (bz ob.d)) W) ∧ (convert 28 9 (.slice A7 (putU (uN ob.ver)).length c7)).run Try.prog W = .ok (.string (uB ob.ver)) W) (fun _ h => h.1) ?_
      have hHeld := Hk7.out _ (Below.refl _ _)
      clear hcv7 hb7' hH7
      refine wpAnyT_take (i := 7) (oi := _) (v := ?_) rfl (by kernel_rfl) (fun _ _ _ h => h) (Or.inl ⟨by kernel_rfl, ?_⟩) (by assumption) ?_; rotate_left; (focus (intro w hSw; (try dsimp only at hSw); go_simp; (try with_reducible rfl))); (try simp only [Act.put, List.getElem_toArray, List.getElem_cons_zero, List.getElem_cons_succ, List.setIfInBounds_toArray, List.set_cons_zero, List.set_cons_succ])
      refine wpAnyT_take (i := 8) (oi := _) (v := ?_) rfl (by kernel_rfl) (fun _ _ _ h => h) (Or.inl ⟨by kernel_rfl, ?_⟩) (by assumption) ?_; rotate_left; (focus (intro w hSw; (try dsimp only at hSw); go_simp; rw [if_neg (by (try simp only [ByteArray.size_append]); (try simp only [bz_size]); omega)])); (try simp only [Act.put, List.getElem_toArray, List.getElem_cons_zero, List.getElem_cons_succ, List.setIfInBounds_toArray, List.set_cons_zero, List.set_cons_succ])
      refine wpAnyT_one (i := 12) (by kernel_rfl) rfl (fun K hK => ?_); go_simp
      refine (putN_calls _ ob.born).mono ?_
      rintro e w8 ⟨A8, c8, rfl, hcv8, hb8⟩
      have hH8 := Hk7.out _ hb8
      refine hK.out _ _ (fun _ => hH8) ?_
      clear hK K hHeld
      (try simp only [Act.put, List.getElem_toArray, List.getElem_cons_zero, List.getElem_cons_succ, List.setIfInBounds_toArray, List.set_cons_zero, List.set_cons_succ])
      have Hk8 : Hid (∀ W, Below w8.heap.size w8 W → ((W.cell? ⟨g6, 1, none⟩ = some (.slice A5 ob.d.length c5) ∧ W.cell? ⟨g6, 2, none⟩ = some (.int .i64 ob.ver) ∧ W.cell? ⟨g6, 3, none⟩ = some (.int .i64 ob.born) ∧ (convert 28 9 (.slice A5 ob.d.length c5)).run Try.prog W = .ok (.string (bz ob.d)) W) ∧ (convert 28 9 (.slice A7 (putU (uN ob.ver)).length c7)).run Try.prog W = .ok (.string (uB ob.ver)) W) ∧ (convert 28 9 (.slice A8 (putU (uN ob.born)).length c8)).run Try.prog W = .ok (.string (uB ob.born)) W) := Lib.hid fun W hW => ⟨Hk7.out _ (hb8.trans (hW.mono hb8.size)), hcv8 W hW⟩
      refine wpAnyT_more (S' := fun W => ((W.cell? ⟨g6, 1, none⟩ = some (.slice A5 ob.d.length c5) ∧ W.cell? ⟨g6, 2, none⟩ = some (.int .i64 ob.ver) ∧ W.cell? ⟨g6, 3, none⟩ = some (.int .i64 ob.born) ∧ (convert 28 9 (.slice A5 ob.d.length c5)).run Try.prog W = .ok (.string (bz ob.d)) W) ∧ (convert 28 9 (.slice A7 (putU (uN ob.ver)).length c7)).run Try.prog W = .ok (.string (uB ob.ver)) W) ∧ (convert 28 9 (.slice A8 (putU (uN ob.born)).length c8)).run Try.prog W = .ok (.string (uB ob.born)) W) (fun _ h => h.1) ?_
      have hHeld := Hk8.out _ (Below.refl _ _)
      clear hcv8 hH8
      refine wpAnyT_take (i := 13) (oi := _) (v := ?_) rfl (by kernel_rfl) (fun _ _ _ h => h) (Or.inl ⟨by kernel_rfl, ?_⟩) (by assumption) ?_; rotate_left; (focus (intro w hSw; (try dsimp only at hSw); go_simp; (try with_reducible rfl))); (try simp only [Act.put, List.getElem_toArray, List.getElem_cons_zero, List.getElem_cons_succ, List.setIfInBounds_toArray, List.set_cons_zero, List.set_cons_succ])
      refine wpAnyT_take (i := 14) (oi := _) (v := ?_) rfl (by kernel_rfl) (fun _ _ _ h => h) (Or.inl ⟨by kernel_rfl, ?_⟩) (by assumption) ?_; rotate_left; (focus (intro w hSw; (try dsimp only at hSw); go_simp; rw [if_neg (by (try simp only [ByteArray.size_append]); (try simp only [bz_size]); omega)])); (try simp only [Act.put, List.getElem_toArray, List.getElem_cons_zero, List.getElem_cons_succ, List.setIfInBounds_toArray, List.set_cons_zero, List.set_cons_succ])
      refine wpAnyT_one (i := 19) (by kernel_rfl) rfl (fun K hK => ?_); go_simp
      refine (putN_calls _ (ob.d.length : Int)).mono ?_
      rintro e w9 ⟨A9, c9, rfl, hcv9, hb9⟩
      have hH9 := Hk8.out _ hb9
      refine hK.out _ _ (fun _ => hH9) ?_
      clear hK K hHeld
      (try simp only [Act.put, List.getElem_toArray, List.getElem_cons_zero, List.getElem_cons_succ, List.setIfInBounds_toArray, List.set_cons_zero, List.set_cons_succ])
      refine wpAnyT_more (S' := fun W => (((W.cell? ⟨g6, 1, none⟩ = some (.slice A5 ob.d.length c5) ∧ W.cell? ⟨g6, 2, none⟩ = some (.int .i64 ob.ver) ∧ W.cell? ⟨g6, 3, none⟩ = some (.int .i64 ob.born) ∧ (convert 28 9 (.slice A5 ob.d.length c5)).run Try.prog W = .ok (.string (bz ob.d)) W) ∧ (convert 28 9 (.slice A7 (putU (uN ob.ver)).length c7)).run Try.prog W = .ok (.string (uB ob.ver)) W) ∧ (convert 28 9 (.slice A8 (putU (uN ob.born)).length c8)).run Try.prog W = .ok (.string (uB ob.born)) W) ∧ (convert 28 9 (.slice A9 (putU (uN (ob.d.length : Int))).length c9)).run Try.prog W = .ok (.string (uB (ob.d.length : Int))) W) (fun _ h => h.1) ?_
      have hHeld : (fun W => (((W.cell? ⟨g6, 1, none⟩ = some (.slice A5 ob.d.length c5) ∧ W.cell? ⟨g6, 2, none⟩ = some (.int .i64 ob.ver) ∧ W.cell? ⟨g6, 3, none⟩ = some (.int .i64 ob.born) ∧ (convert 28 9 (.slice A5 ob.d.length c5)).run Try.prog W = .ok (.string (bz ob.d)) W) ∧ (convert 28 9 (.slice A7 (putU (uN ob.ver)).length c7)).run Try.prog W = .ok (.string (uB ob.ver)) W) ∧ (convert 28 9 (.slice A8 (putU (uN ob.born)).length c8)).run Try.prog W = .ok (.string (uB ob.born)) W) ∧ (convert 28 9 (.slice A9 (putU (uN (ob.d.length : Int))).length c9)).run Try.prog W = .ok (.string (uB (ob.d.length : Int))) W) w9 := ⟨hH9, hcv9 _ (Below.refl _ _)⟩
      clear hcv9 hH9
      refine wpAnyT_take (i := 20) (oi := _) (v := ?_) rfl (by kernel_rfl) (fun _ _ _ h => h) (Or.inl ⟨by kernel_rfl, ?_⟩) (by assumption) ?_; rotate_left; (focus (intro w hSw; (try dsimp only at hSw); go_simp; (try with_reducible rfl))); (try simp only [Act.put, List.getElem_toArray, List.getElem_cons_zero, List.getElem_cons_succ, List.setIfInBounds_toArray, List.set_cons_zero, List.set_cons_succ])
      refine wpAnyT_take (i := 21) (oi := _) (v := ?_) rfl (by kernel_rfl) (fun _ _ _ h => h) (Or.inl ⟨by kernel_rfl, ?_⟩) (by assumption) ?_; rotate_left; (focus (intro w hSw; (try dsimp only at hSw); go_simp; rw [if_neg (by (try simp only [ByteArray.size_append]); (try simp only [bz_size]); omega)])); (try simp only [Act.put, List.getElem_toArray, List.getElem_cons_zero, List.getElem_cons_succ, List.setIfInBounds_toArray, List.set_cons_zero, List.set_cons_succ])
      refine wpAnyT_take (i := 25) (oi := _) (v := ?_) rfl (by kernel_rfl) (fun _ _ _ h => h) (Or.inl ⟨by kernel_rfl, ?_⟩) (by assumption) ?_; rotate_left; (focus (intro w hSw; (try dsimp only at hSw); go_simp; rw [if_neg (by (try simp only [ByteArray.size_append]); (try simp only [bz_size]); omega)])); (try simp only [Act.put, List.getElem_toArray, List.getElem_cons_zero, List.getElem_cons_succ, List.setIfInBounds_toArray, List.set_cons_zero, List.set_cons_succ])
      refine wpAnyT_take (i := 26) (oi := _) (v := ?_) rfl (by kernel_rfl) (fun _ _ _ h => h) (Or.inl ⟨by kernel_rfl, ?_⟩) (by assumption) ?_; rotate_left; (focus (intro w hSw; (try dsimp only at hSw); go_simp; rw [if_neg (by (try simp only [ByteArray.size_append]); (try simp only [bz_size]); omega)])); (try simp only [Act.put, List.getElem_toArray, List.getElem_cons_zero, List.getElem_cons_succ, List.setIfInBounds_toArray, List.set_cons_zero, List.set_cons_succ])
      refine wpAnyT_take (i := 27) (oi := _) (v := ?_) rfl (by kernel_rfl) (fun _ _ _ h => h) (Or.inl ⟨by kernel_rfl, ?_⟩) (by assumption) ?_; rotate_left; (focus (intro w hSw; (try dsimp only at hSw); go_simp; (try with_reducible rfl))); (try simp only [Act.put, List.getElem_toArray, List.getElem_cons_zero, List.getElem_cons_succ, List.setIfInBounds_toArray, List.set_cons_zero, List.set_cons_succ])
      refine wpAnyT_done (by kernel_rfl) ?_ _
      have HW9 := Lib.hid ((HW6.out.trans (hb7.mono HW6.out.size)).trans ((hb8.trans (hb9.mono hb8.size)).mono (Nat.le_trans HW6.out.size hb7.size)))
      clear hHeld Hk6 Hk7 Hk8 hb7 hb8 hb9 HW6 HB6 HD6
      go_wp2
      go_roundw
      case rel => exact ⟨q + 1, _, by omega, by go_num, rfl, by simp only [ByteArray.size_append] at hps ⊢; omega, Lib.hid HT2.out.symm, HW9⟩
      case measure => simp [intOf]; omega
    · obtain rfl : q = L.objs.length := by omega
      have d1 : decide ((L.objs.length : Int) < (L.objs.length : Int)) = false := dcf (by omega)
      have hpl : L.pure.objs.length = L.objs.length := List.length_map ..
      have HTO : Hid (T = dumpO L.pure.objs) := Lib.hid (by have := HT.out; rw [← hpl, List.take_length] at this; exact this)
      have HUC := Lib.hid (uploads_calls wi HVi.out.at_ (Nat.le_trans HVi.out.inv.inv.un (by omega)))
      rw [HVi.out.gs] at HUC
      have hun := HVi.out.inv.inv.un
      have HWw := Lib.hid (HB1.out.trans (HW.out.mono hs1))
      clear HT HK1 hpl
      go_wp2_with fail
      refine HUC.out.mono ?_
      rintro e w2 ⟨Au, cu, rfl, hown2, hb2⟩
      have HK2 := Lib.hid hown2
      have HV2 := Lib.hid (HVi.out.on hb2)
      have HW2 := Lib.hid (HWw.out.trans (hb2.mono HWw.out.size))
      clear hown2 hb2 HUC HVi
      go_wp2
      go_loopw [3, 52] (fun t i wr => ∃ (q : Nat) (T2 : ByteArray), q ≤ L.ups.length ∧ i = .int .i64 (q : Int) ∧ t = .string T2 ∧ T2.size ≤ L.objs.length * 300000 + q * 100 ∧ Hid (T2 = dumpU T (L.pure.ups.take q)) ∧ Hid (Below w2.heap.size w2 wr)) (fun _ i _ => L.ups.length - (intOf i).toNat)
      case atStart => exact ⟨0, T, Nat.zero_le _, rfl, rfl, Nat.le_add_right_of_le hT, Lib.hid rfl, Lib.hid (Below.refl _ _)⟩
      case round =>
        obtain ⟨q, T2, hq2, rfl, rfl, hT2, HT, HWj⟩ := hrel
        obtain ⟨wj, rfl⟩ : ∃ wj : World, wj = wr := ⟨_, rfl⟩
        have hsj := HWj.out.size
        have HVj := Lib.hid (HV2.out.on HWj.out)
        by_cases hlt : q < L.ups.length
        · have d2 : decide ((q : Int) < (L.ups.length : Int)) = true := dct (by omega)
          obtain ⟨b, off, rfl, hbB, hcell⟩ := (Reads.of_own (own_below HK2.out HWj.out)).2 (by omega : 0 < L.ups.length)
          have x0 := hcell q (.int .i64 L.ups[q].1) (by rw [List.getElem?_map, List.getElem?_eq_getElem hlt]; rfl)
          have hql : q < L.pure.ups.length := by show q < (L.ups.map _).length; rw [List.length_map]; exact hlt
          have hg : L.pure.ups[q] = (L.ups[q].1, L.ups[q].2.pure) := List.getElem_map ..
          have HG := Lib.hid (open_live wj HVj.out.at_ HVj.out.inv (by omega) HJ.out hql)
          rw [HVj.out.gs] at HG
          have hks := right_size (HVj.out.inv.uk _ (List.getElem_mem hql))
          have hid1 := HJ.out _ (List.getElem_mem hql)
          have hid2 := HVj.out.inv.ui _ (List.getElem_mem hql)
          have hid3 := HVj.out.inv.i1
          have HT2 : Hid (dumpU T (L.pure.ups.take (q + 1)) = T2 ++ partU L.pure.ups[q].1 L.pure.ups[q].2) := Lib.hid (by rw [List.take_succ_eq_append_getElem hql, dumpU_snoc, ← HT.out])
          have hps := partU_size (id := L.pure.ups[q].1) (u := L.pure.ups[q].2) hks
          have hx : L.ups[q].1 = L.pure.ups[q].1 := by rw [hg]
          rw [hx] at x0
          have hj0 : (0 : Int) ≤ (q : Int) := by omega
          have hj1 : (q : Int) < (L.ups.length : Int) := by omega
          have r1 : IntKind.i64.wrap (L.pure.ups[q].1 - 1) = L.pure.ups[q].1 - 1 := by rw [IntKind.wrap_i64]; omega
          unfold partU at HT2 hps
          clear hcell HT hx hg
          generalize L.pure.ups[q] = up at *
          obtain ⟨id, u⟩ := up
          dsimp only at *
          go_wp2_with fail
          refine HG.out.mono ?_
          rintro e w5 ⟨A5, c5, b, off, m, cl, more, rfl, hc5, hb5, -, hK5⟩
          have HW5 := Lib.hid (HWj.out.trans (hK5.mono hsj))
          have HC5 := Lib.hid hc5
          have hs5 := HW5.out.size
          clear hK5 hc5 HG HWj x0
          have d3 : decide ((0 : Int) < ((m + 1 : Nat) : Int)) = true := dct (by omega)
          have d3' : decide ((0 : Int) < (m : Int) + 1) = true := dct (by omega)
          go_upto_region 13 with fail
          have HW6 := Lib.hid (HW5.out.alloc hs5 (.cells #[.int .i64 0, .slice A5 0 c5, .int .i64 0, .int .i64 0, .int .i64 0, .slice (some ⟨b, off, none⟩) (m + 1) cl, .bool more] 36))
          have HB6 := Lib.hid (Blk.new w5 36 #[.int .i64 0, .slice A5 0 c5, .int .i64 0, .int .i64 0, .int .i64 0, .slice (some ⟨b, off, none⟩) (m + 1) cl, .bool more])
          have hbA : Below w5.heap.size w5 (w5.alloc (.cells #[.int .i64 0, .slice A5 0 c5, .int .i64 0, .int .i64 0, .int .i64 0, .slice (some ⟨b, off, none⟩) (m + 1) cl, .bool more] 36)) := (Below.refl _ _).alloc (Nat.le_refl _) _
          have HC6 : Hid (∀ W, Below (w5.alloc (.cells #[.int .i64 0, .slice A5 0 c5, .int .i64 0, .int .i64 0, .int .i64 0, .slice (some ⟨b, off, none⟩) (m + 1) cl, .bool more] 36)).heap.size (w5.alloc (.cells #[.int .i64 0, .slice A5 0 c5, .int .i64 0, .int .i64 0, .int .i64 0, .slice (some ⟨b, off, none⟩) (m + 1) cl, .bool more] 36)) W → W.cell? ⟨b, off, none⟩ = some (.string u.key) ∧ W.cell? ⟨b, off + 1, none⟩ = some (.int .i64 id) ∧ W.cell? ⟨b, off + 2, none⟩ = some (.int .i64 (u.sum : Int))) := Lib.hid fun W hW => by
            have hX : Below w5.heap.size w5 W := hbA.trans (hW.mono hbA.size)
            refine ⟨(hX.cell (p := ⟨b, off, none⟩) hb5).trans HC5.out.1, (hX.cell (p := ⟨b, off + 1, none⟩) hb5).trans HC5.out.2.1, (hX.cell (p := ⟨b, off + 2, none⟩) hb5).trans HC5.out.2.2⟩
          clear HW5 HC5 hbA HVj
          generalize w5.alloc (.cells #[.int .i64 0, .slice A5 0 c5, .int .i64 0, .int .i64 0, .int .i64 0, .slice (some ⟨b, off, none⟩) (m + 1) cl, .bool more] 36) = w6 at *
          generalize w5.heap.size = g9 at *
          have Hk6 : Hid (∀ W, Below w6.heap.size w6 W → W.cell? ⟨g9, 5, none⟩ = some (.slice (some ⟨b, off, none⟩) (m + 1) cl) ∧ W.cell? ⟨b, off, none⟩ = some (.string u.key) ∧ W.cell? ⟨b, off + 1, none⟩ = some (.int .i64 id) ∧ W.cell? ⟨b, off + 2, none⟩ = some (.int .i64 (u.sum : Int))) := Lib.hid fun W hW => ⟨(HB6.out.below hW HB6.out.lt).cell 5, HC6.out W hW⟩
          refine wp_region_T 99 (fun W => W.cell? ⟨g9, 5, none⟩ = some (.slice (some ⟨b, off, none⟩) (m + 1) cl) ∧ W.cell? ⟨b, off, none⟩ = some (.string u.key) ∧ W.cell? ⟨b, off + 1, none⟩ = some (.int .i64 id) ∧ W.cell? ⟨b, off + 2, none⟩ = some (.int .i64 (u.sum : Int))) (by kernel_rfl) (Hk6.out _ (below_drewN_ (Below.refl _ _) 1)) (fun hHeld => ?_)
          have hz0 : (⟨#[1]⟩ : ByteArray).size = 1 := rfl
          have hu1 := uB_size id
          have hu2 := uB_size (u.sum : Int)
          refine wpAnyT_take (i := 0) (oi := _) (v := ?_) rfl (by kernel_rfl) (fun _ _ _ h => h) (Or.inl ⟨by kernel_rfl, ?_⟩) (by assumption) ?_; rotate_left; (focus (intro w hSw; (try dsimp only at hSw); go_simp; (try with_reducible rfl))); (try simp only [Act.put, List.getElem_toArray, List.getElem_cons_zero, List.setIfInBounds_toArray, List.set_cons_zero, List.set_cons_succ])
          refine wpAnyT_take (i := 1) (oi := _) (v := ?_) rfl (by kernel_rfl) (fun _ _ _ h => h) (Or.inl ⟨by kernel_rfl, ?_⟩) (by assumption) ?_; rotate_left; (focus (intro w hSw; (try dsimp only at hSw); go_simp; (try with_reducible rfl))); (try simp only [Act.put, List.getElem_toArray, List.getElem_cons_zero, List.getElem_cons_succ, List.setIfInBounds_toArray, List.set_cons_zero, List.set_cons_succ])
          refine wpAnyT_take (i := 2) (oi := _) (v := ?_) rfl (by kernel_rfl) (fun _ _ _ h => h) (Or.inl ⟨by kernel_rfl, ?_⟩) (by assumption) ?_; rotate_left; (focus (intro w hSw; (try dsimp only at hSw); go_simp; (try with_reducible rfl))); (try simp only [Act.put, List.getElem_toArray, List.getElem_cons_zero, List.getElem_cons_succ, List.setIfInBounds_toArray, List.set_cons_zero, List.set_cons_succ])
          refine wpAnyT_take (i := 3) (oi := _) (v := ?_) rfl (by kernel_rfl) (fun _ _ _ h => h) (Or.inl ⟨by kernel_rfl, ?_⟩) (by assumption) ?_; rotate_left; (focus (intro w hSw; (try dsimp only at hSw); go_simp; (try with_reducible rfl))); (try simp only [Act.put, List.getElem_toArray, List.getElem_cons_zero, List.getElem_cons_succ, List.setIfInBounds_toArray, List.set_cons_zero, List.set_cons_succ])
          refine wpAnyT_take (i := 4) (oi := _) (v := ?_) rfl (by kernel_rfl) (fun _ _ _ h => h) (Or.inl ⟨by kernel_rfl, ?_⟩) (by assumption) ?_; rotate_left; (focus (intro w hSw; (try dsimp only at hSw); go_simp; (try with_reducible rfl))); (try simp only [Act.put, List.getElem_toArray, List.getElem_cons_zero, List.getElem_cons_succ, List.setIfInBounds_toArray, List.set_cons_zero, List.set_cons_succ])
          refine wpAnyT_take (i := 5) (oi := _) (v := ?_) rfl (by kernel_rfl) (fun _ _ _ h => h) (Or.inl ⟨by kernel_rfl, ?_⟩) (by assumption) ?_; rotate_left; (focus (intro w hSw; (try dsimp only at hSw); go_simp; (try with_reducible rfl))); (try simp only [Act.put, List.getElem_toArray, List.getElem_cons_zero, List.getElem_cons_succ, List.setIfInBounds_toArray, List.set_cons_zero, List.set_cons_succ])
          refine wpAnyT_take (i := 6) (oi := _) (v := ?_) rfl (by kernel_rfl) (fun _ _ _ h => h) (Or.inl ⟨by kernel_rfl, ?_⟩) (by assumption) ?_; rotate_left; (focus (intro w hSw; (try dsimp only at hSw); go_simp; rw [if_neg (by (try simp only [ByteArray.size_append]); (try simp only [bz_size]); omega)])); (try simp only [Act.put, List.getElem_toArray, List.getElem_cons_zero, List.getElem_cons_succ, List.setIfInBounds_toArray, List.set_cons_zero, List.set_cons_succ])
          refine wpAnyT_take (i := 7) (oi := _) (v := ?_) rfl (by kernel_rfl) (fun _ _ _ h => h) (Or.inl ⟨by kernel_rfl, ?_⟩) (by assumption) ?_; rotate_left; (focus (intro w hSw; (try dsimp only at hSw); go_simp; (try with_reducible rfl))); (try simp only [Act.put, List.getElem_toArray, List.getElem_cons_zero, List.getElem_cons_succ, List.setIfInBounds_toArray, List.set_cons_zero, List.set_cons_succ])
          refine wpAnyT_take (i := 8) (oi := _) (v := ?_) rfl (by kernel_rfl) (fun _ _ _ h => h) (Or.inl ⟨by kernel_rfl, ?_⟩) (by assumption) ?_; rotate_left; (focus (intro w hSw; (try dsimp only at hSw); go_simp; (try with_reducible rfl))); (try simp only [Act.put, List.getElem_toArray, List.getElem_cons_zero, List.getElem_cons_succ, List.setIfInBounds_toArray, List.set_cons_zero, List.set_cons_succ])
          refine wpAnyT_take (i := 9) (oi := _) (v := ?_) rfl (by kernel_rfl) (fun _ _ _ h => h) (Or.inl ⟨by kernel_rfl, ?_⟩) (by assumption) ?_; rotate_left; (focus (intro w hSw; (try dsimp only at hSw); go_simp; (try with_reducible rfl))); (try simp only [Act.put, List.getElem_toArray, List.getElem_cons_zero, List.getElem_cons_succ, List.setIfInBounds_toArray, List.set_cons_zero, List.set_cons_succ])
          refine wpAnyT_take (i := 10) (oi := _) (v := ?_) rfl (by kernel_rfl) (fun _ _ _ h => h) (Or.inl ⟨by kernel_rfl, ?_⟩) (by assumption) ?_; rotate_left; (focus (intro w hSw; (try dsimp only at hSw); go_simp; (try with_reducible rfl))); (try simp only [Act.put, List.getElem_toArray, List.getElem_cons_zero, List.getElem_cons_succ, List.setIfInBounds_toArray, List.set_cons_zero, List.set_cons_succ])
          refine wpAnyT_take (i := 11) (oi := _) (v := ?_) rfl (by kernel_rfl) (fun _ _ _ h => h) (Or.inl ⟨by kernel_rfl, ?_⟩) (by assumption) ?_; rotate_left; (focus (intro w hSw; (try dsimp only at hSw); go_simp; (try with_reducible rfl))); (try simp only [Act.put, List.getElem_toArray, List.getElem_cons_zero, List.getElem_cons_succ, List.setIfInBounds_toArray, List.set_cons_zero, List.set_cons_succ])
          refine wpAnyT_take (i := 12) (oi := _) (v := ?_) rfl (by kernel_rfl) (fun _ _ _ h => h) (Or.inl ⟨by kernel_rfl, ?_⟩) (by assumption) ?_; rotate_left; (focus (intro w hSw; (try dsimp only at hSw); go_simp; (try with_reducible rfl))); (try simp only [Act.put, List.getElem_toArray, List.getElem_cons_zero, List.getElem_cons_succ, List.setIfInBounds_toArray, List.set_cons_zero, List.set_cons_succ])
          refine wpAnyT_take (i := 16) (oi := _) (v := ?_) rfl (by kernel_rfl) (fun _ _ _ h => h) (Or.inl ⟨by kernel_rfl, ?_⟩) (by assumption) ?_; rotate_left; (focus (intro w hSw; (try dsimp only at hSw); go_simp; (try with_reducible rfl))); (try simp only [Act.put, List.getElem_toArray, List.getElem_cons_zero, List.getElem_cons_succ, List.setIfInBounds_toArray, List.set_cons_zero, List.set_cons_succ])
          refine wpAnyT_take (i := 17) (oi := _) (v := ?_) rfl (by kernel_rfl) (fun _ _ _ h => h) (Or.inl ⟨by kernel_rfl, ?_⟩) (by assumption) ?_; rotate_left; (focus (intro w hSw; (try dsimp only at hSw); go_simp; (try with_reducible rfl))); (try simp only [Act.put, List.getElem_toArray, List.getElem_cons_zero, List.getElem_cons_succ, List.setIfInBounds_toArray, List.set_cons_zero, List.set_cons_succ])
          refine wpAnyT_take (i := 18) (oi := _) (v := ?_) rfl (by kernel_rfl) (fun _ _ _ h => h) (Or.inl ⟨by kernel_rfl, ?_⟩) (by assumption) ?_; rotate_left; (focus (intro w hSw; (try dsimp only at hSw); go_simp; (try with_reducible rfl))); (try simp only [Act.put, List.getElem_toArray, List.getElem_cons_zero, List.getElem_cons_succ, List.setIfInBounds_toArray, List.set_cons_zero, List.set_cons_succ])
          refine wpAnyT_take (i := 19) (oi := _) (v := ?_) rfl (by kernel_rfl) (fun _ _ _ h => h) (Or.inl ⟨by kernel_rfl, ?_⟩) (by assumption) ?_; rotate_left; (focus (intro w hSw; (try dsimp only at hSw); go_simp; (try with_reducible rfl))); (try simp only [Act.put, List.getElem_toArray, List.getElem_cons_zero, List.getElem_cons_succ, List.setIfInBounds_toArray, List.set_cons_zero, List.set_cons_succ])
          refine wpAnyT_take (i := 20) (oi := _) (v := ?_) rfl (by kernel_rfl) (fun _ _ _ h => h) (Or.inl ⟨by kernel_rfl, ?_⟩) (by assumption) ?_; rotate_left; (focus (intro w hSw; (try dsimp only at hSw); go_simp; (try with_reducible rfl))); (try simp only [Act.put, List.getElem_toArray, List.getElem_cons_zero, List.getElem_cons_succ, List.setIfInBounds_toArray, List.set_cons_zero, List.set_cons_succ])
          refine wpAnyT_take (i := 21) (oi := _) (v := ?_) rfl (by kernel_rfl) (fun _ _ _ h => h) (Or.inl ⟨by kernel_rfl, ?_⟩) (by assumption) ?_; rotate_left; (focus (intro w hSw; (try dsimp only at hSw); go_simp; (try with_reducible rfl))); (try simp only [Act.put, List.getElem_toArray, List.getElem_cons_zero, List.getElem_cons_succ, List.setIfInBounds_toArray, List.set_cons_zero, List.set_cons_succ])
          refine wpAnyT_one (i := 13) (by kernel_rfl) rfl (fun K hK => ?_); go_simp
          refine (putN_calls _ id).mono ?_
          rintro e w7 ⟨A7, c7, rfl, hcv7, hb7'⟩
          have hb7 : Below w6.heap.size w6 w7 := (below_drewN_ (Below.refl _ _) 1).trans hb7'
          have hH7 := Hk6.out _ hb7
          refine hK.out _ _ (fun _ => hH7) ?_
          clear hK K hHeld
          (try simp only [Act.put, List.getElem_toArray, List.getElem_cons_zero, List.getElem_cons_succ, List.setIfInBounds_toArray, List.set_cons_zero, List.set_cons_succ])
          have Hk7 : Hid (∀ W, Below w7.heap.size w7 W → (W.cell? ⟨g9, 5, none⟩ = some (.slice (some ⟨b, off, none⟩) (m + 1) cl) ∧ W.cell? ⟨b, off, none⟩ = some (.string u.key) ∧ W.cell? ⟨b, off + 1, none⟩ = some (.int .i64 id) ∧ W.cell? ⟨b, off + 2, none⟩ = some (.int .i64 (u.sum : Int))) ∧ (convert 28 9 (.slice A7 (putU (uN id)).length c7)).run Try.prog W = .ok (.string (uB id)) W) := Lib.hid fun W hW => ⟨Hk6.out _ (hb7.trans (hW.mono hb7.size)), hcv7 W hW⟩
          refine wpAnyT_more (S' := fun W => (W.cell? ⟨g9, 5, none⟩ = some (.slice (some ⟨b, off, none⟩) (m + 1) cl) ∧ W.cell? ⟨b, off, none⟩ = some (.string u.key) ∧ W.cell? ⟨b, off + 1, none⟩ = some (.int .i64 id) ∧ W.cell? ⟨b, off + 2, none⟩ = some (.int .i64 (u.sum : Int))) ∧ (convert 28 9 (.slice A7 (putU (uN id)).length c7)).run Try.prog W = .ok (.string (uB id)) W) (fun _ h => h.1) ?_
          have hHeld := Hk7.out _ (Below.refl _ _)
          clear hcv7 hb7' hH7
          refine wpAnyT_take (i := 14) (oi := _) (v := ?_) rfl (by kernel_rfl) (fun _ _ _ h => h) (Or.inl ⟨by kernel_rfl, ?_⟩) (by assumption) ?_; rotate_left; (focus (intro w hSw; (try dsimp only at hSw); go_simp; (try with_reducible rfl))); (try simp only [Act.put, List.getElem_toArray, List.getElem_cons_zero, List.getElem_cons_succ, List.setIfInBounds_toArray, List.set_cons_zero, List.set_cons_succ])
          refine wpAnyT_take (i := 15) (oi := _) (v := ?_) rfl (by kernel_rfl) (fun _ _ _ h => h) (Or.inl ⟨by kernel_rfl, ?_⟩) (by assumption) ?_; rotate_left; (focus (intro w hSw; (try dsimp only at hSw); go_simp; rw [if_neg (by (try simp only [ByteArray.size_append]); (try simp only [bz_size]); omega)])); (try simp only [Act.put, List.getElem_toArray, List.getElem_cons_zero, List.getElem_cons_succ, List.setIfInBounds_toArray, List.set_cons_zero, List.set_cons_succ])
          refine wpAnyT_one (i := 22) (by kernel_rfl) rfl (fun K hK => ?_); go_simp
          refine (putN_calls _ (u.sum : Int)).mono ?_
          rintro e w8 ⟨A8, c8, rfl, hcv8, hb8⟩
          have hH8 := Hk7.out _ hb8
          refine hK.out _ _ (fun _ => hH8) ?_
          clear hK K hHeld
          (try simp only [Act.put, List.getElem_toArray, List.getElem_cons_zero, List.getElem_cons_succ, List.setIfInBounds_toArray, List.set_cons_zero, List.set_cons_succ])
          refine wpAnyT_more (S' := fun W => ((W.cell? ⟨g9, 5, none⟩ = some (.slice (some ⟨b, off, none⟩) (m + 1) cl) ∧ W.cell? ⟨b, off, none⟩ = some (.string u.key) ∧ W.cell? ⟨b, off + 1, none⟩ = some (.int .i64 id) ∧ W.cell? ⟨b, off + 2, none⟩ = some (.int .i64 (u.sum : Int))) ∧ (convert 28 9 (.slice A7 (putU (uN id)).length c7)).run Try.prog W = .ok (.string (uB id)) W) ∧ (convert 28 9 (.slice A8 (putU (uN (u.sum : Int))).length c8)).run Try.prog W = .ok (.string (uB (u.sum : Int))) W) (fun _ h => h.1) ?_
          have hHeld : (fun W => ((W.cell? ⟨g9, 5, none⟩ = some (.slice (some ⟨b, off, none⟩) (m + 1) cl) ∧ W.cell? ⟨b, off, none⟩ = some (.string u.key) ∧ W.cell? ⟨b, off + 1, none⟩ = some (.int .i64 id) ∧ W.cell? ⟨b, off + 2, none⟩ = some (.int .i64 (u.sum : Int))) ∧ (convert 28 9 (.slice A7 (putU (uN id)).length c7)).run Try.prog W = .ok (.string (uB id)) W) ∧ (convert 28 9 (.slice A8 (putU (uN (u.sum : Int))).length c8)).run Try.prog W = .ok (.string (uB (u.sum : Int))) W) w8 := ⟨hH8, hcv8 _ (Below.refl _ _)⟩
          clear hcv8 hH8
          refine wpAnyT_take (i := 23) (oi := _) (v := ?_) rfl (by kernel_rfl) (fun _ _ _ h => h) (Or.inl ⟨by kernel_rfl, ?_⟩) (by assumption) ?_; rotate_left; (focus (intro w hSw; (try dsimp only at hSw); go_simp; (try with_reducible rfl))); (try simp only [Act.put, List.getElem_toArray, List.getElem_cons_zero, List.getElem_cons_succ, List.setIfInBounds_toArray, List.set_cons_zero, List.set_cons_succ])
          refine wpAnyT_take (i := 24) (oi := _) (v := ?_) rfl (by kernel_rfl) (fun _ _ _ h => h) (Or.inl ⟨by kernel_rfl, ?_⟩) (by assumption) ?_; rotate_left; (focus (intro w hSw; (try dsimp only at hSw); go_simp; rw [if_neg (by (try simp only [ByteArray.size_append]); (try simp only [bz_size]); omega)])); (try simp only [Act.put, List.getElem_toArray, List.getElem_cons_zero, List.getElem_cons_succ, List.setIfInBounds_toArray, List.set_cons_zero, List.set_cons_succ])
          refine wpAnyT_take (i := 25) (oi := _) (v := ?_) rfl (by kernel_rfl) (fun _ _ _ h => h) (Or.inl ⟨by kernel_rfl, ?_⟩) (by assumption) ?_; rotate_left; (focus (intro w hSw; (try dsimp only at hSw); go_simp; rw [if_neg (by (try simp only [ByteArray.size_append]); (try simp only [bz_size]); omega)])); (try simp only [Act.put, List.getElem_toArray, List.getElem_cons_zero, List.getElem_cons_succ, List.setIfInBounds_toArray, List.set_cons_zero, List.set_cons_succ])
          refine wpAnyT_take (i := 26) (oi := _) (v := ?_) rfl (by kernel_rfl) (fun _ _ _ h => h) (Or.inl ⟨by kernel_rfl, ?_⟩) (by assumption) ?_; rotate_left; (focus (intro w hSw; (try dsimp only at hSw); go_simp; (try with_reducible rfl))); (try simp only [Act.put, List.getElem_toArray, List.getElem_cons_zero, List.getElem_cons_succ, List.setIfInBounds_toArray, List.set_cons_zero, List.set_cons_succ])
          refine wpAnyT_done (by kernel_rfl) ?_ _
          have HW9 := Lib.hid ((HW6.out.trans (hb7.mono HW6.out.size)).trans (hb8.mono (Nat.le_trans HW6.out.size hb7.size)))
          clear hHeld Hk6 Hk7 hb7 hb8 HW6 HB6 HC6
          go_wp2
          go_roundw
          case rel => exact ⟨q + 1, _, by omega, by go_num, rfl, by simp only [ByteArray.size_append] at hps ⊢; omega, Lib.hid HT2.out.symm, HW9⟩
          case measure => simp [intOf]; omega
        · obtain rfl : q = L.ups.length := by omega
          have d2 : decide ((L.ups.length : Int) < (L.ups.length : Int)) = false := dcf (by omega)
          have hpu : L.pure.ups.length = L.ups.length := List.length_map ..
          have HTU : Hid (T2 = dumpU (dumpO L.pure.objs) L.pure.ups) := Lib.hid (by have := HT.out; rw [← hpu, List.take_length, HTO.out] at this; exact this)
          have HWz := Lib.hid (HW2.out.trans (HWj.out.mono HW2.out.size))
          go_upto_region 15 with fail
          have hu1 := uB_size L.now
          have hu2 := uB_size L.all
          have HVd := Lib.hid (HVj.out.on (below_drewN_ (Below.refl _ _) 1))
          clear HVj
          refine wp_region_T 99 (fun _ => True) (by kernel_rfl) trivial (fun hHeld => ?_)
          refine wpAnyT_take (i := 0) (oi := _) (v := ?_) rfl (by kernel_rfl) (fun _ _ _ h => h) (Or.inl ⟨by kernel_rfl, ?_⟩) (by assumption) ?_; rotate_left; (focus (intro w hSw; (try dsimp only at hSw); go_simp; (try with_reducible rfl))); (try simp only [Act.put, List.getElem_toArray, List.getElem_cons_zero, List.setIfInBounds_toArray, List.set_cons_zero, List.set_cons_succ])
          refine wpAnyT_take (i := 1) (oi := _) (v := ?_) rfl (by kernel_rfl) (fun _ _ _ h => h) (Or.inl ⟨by kernel_rfl, ?_⟩) (by assumption) ?_; rotate_left; (focus (intro w hSw; (try dsimp only at hSw); go_simp; (try with_reducible rfl))); (try simp only [Act.put, List.getElem_toArray, List.getElem_cons_zero, List.getElem_cons_succ, List.setIfInBounds_toArray, List.set_cons_zero, List.set_cons_succ])
          refine wpAnyT_take (i := 7) (oi := _) (v := ?_) rfl (by kernel_rfl) (fun _ _ _ h => h) (Or.inl ⟨by kernel_rfl, ?_⟩) (by assumption) ?_; rotate_left; (focus (intro w hSw; (try dsimp only at hSw); go_simp; (try with_reducible rfl))); (try simp only [Act.put, List.getElem_toArray, List.getElem_cons_zero, List.getElem_cons_succ, List.setIfInBounds_toArray, List.set_cons_zero, List.set_cons_succ])
          have hnow := now_calls (wj.drewN 1) HVd.out.at_
          rw [HVd.out.gs] at hnow
          refine wpAnyT_one (i := 2) (by kernel_rfl) rfl (fun K hK => ?_); go_simp
          refine hnow.mono ?_
          rintro e w' ⟨rfl, rfl⟩
          refine hK.out _ _ (fun _ => trivial) ?_
          clear hK K hHeld hnow
          (try simp only [Act.put, List.getElem_toArray, List.getElem_cons_zero, List.getElem_cons_succ, List.setIfInBounds_toArray, List.set_cons_zero, List.set_cons_succ])
          have hHeld : True := trivial
          refine wpAnyT_take (i := 3) (oi := _) (v := ?_) rfl (by kernel_rfl) (fun _ _ _ h => h) (Or.inl ⟨by kernel_rfl, ?_⟩) (by assumption) ?_; rotate_left; (focus (intro w hSw; (try dsimp only at hSw); go_simp; (try with_reducible rfl))); (try simp only [Act.put, List.getElem_toArray, List.getElem_cons_zero, List.getElem_cons_succ, List.setIfInBounds_toArray, List.set_cons_zero, List.set_cons_succ])
          refine wpAnyT_one (i := 4) (by kernel_rfl) rfl (fun K hK => ?_); go_simp
          refine (putN_calls _ L.now).mono ?_
          rintro e w7 ⟨A7, c7, rfl, hcv7, hb7⟩
          refine hK.out _ _ (fun _ => trivial) ?_
          clear hK K hHeld
          (try simp only [Act.put, List.getElem_toArray, List.getElem_cons_zero, List.getElem_cons_succ, List.setIfInBounds_toArray, List.set_cons_zero, List.set_cons_succ])
          have HV7 := Lib.hid (HVd.out.on hb7)
          have Hk7 : Hid (∀ W, Below w7.heap.size w7 W → (convert 28 9 (.slice A7 (putU (uN L.now)).length c7)).run Try.prog W = .ok (.string (uB L.now)) W) := Lib.hid hcv7
          refine wpAnyT_more (S' := fun W => (convert 28 9 (.slice A7 (putU (uN L.now)).length c7)).run Try.prog W = .ok (.string (uB L.now)) W) (fun _ h => trivial) ?_
          have hHeld := Hk7.out _ (Below.refl _ _)
          clear hcv7
          refine wpAnyT_take (i := 5) (oi := _) (v := ?_) rfl (by kernel_rfl) (fun _ _ _ h => h) (Or.inl ⟨by kernel_rfl, ?_⟩) (by assumption) ?_; rotate_left; (focus (intro w hSw; (try dsimp only at hSw); go_simp; (try with_reducible rfl))); (try simp only [Act.put, List.getElem_toArray, List.getElem_cons_zero, List.getElem_cons_succ, List.setIfInBounds_toArray, List.set_cons_zero, List.set_cons_succ])
          refine wpAnyT_take (i := 6) (oi := _) (v := ?_) rfl (by kernel_rfl) (fun _ _ _ h => h) (Or.inl ⟨by kernel_rfl, ?_⟩) (by assumption) ?_; rotate_left; (focus (intro w hSw; (try dsimp only at hSw); go_simp; rw [if_neg (by (try simp only [ByteArray.size_append]); (try simp only [bz_size]); omega)])); (try simp only [Act.put, List.getElem_toArray, List.getElem_cons_zero, List.getElem_cons_succ, List.setIfInBounds_toArray, List.set_cons_zero, List.set_cons_succ])
          have hall := all_calls w7 HV7.out.at_
          rw [HV7.out.gs] at hall
          refine wpAnyT_one (i := 8) (by kernel_rfl) rfl (fun K hK => ?_); go_simp
          refine hall.mono ?_
          rintro e w' ⟨rfl, rfl⟩
          refine hK.out _ _ (fun _ => hHeld) ?_
          clear hK K hall
          (try simp only [Act.put, List.getElem_toArray, List.getElem_cons_zero, List.getElem_cons_succ, List.setIfInBounds_toArray, List.set_cons_zero, List.set_cons_succ])
          refine wpAnyT_take (i := 9) (oi := _) (v := ?_) rfl (by kernel_rfl) (fun _ _ _ h => h) (Or.inl ⟨by kernel_rfl, ?_⟩) (by assumption) ?_; rotate_left; (focus (intro w hSw; (try dsimp only at hSw); go_simp; (try with_reducible rfl))); (try simp only [Act.put, List.getElem_toArray, List.getElem_cons_zero, List.getElem_cons_succ, List.setIfInBounds_toArray, List.set_cons_zero, List.set_cons_succ])
          refine wpAnyT_one (i := 10) (by kernel_rfl) rfl (fun K hK => ?_); go_simp
          refine (putN_calls _ L.all).mono ?_
          rintro e w8 ⟨A8, c8, rfl, hcv8, hb8⟩
          have hH8 := Hk7.out _ hb8
          refine hK.out _ _ (fun _ => hH8) ?_
          clear hK K hHeld
          (try simp only [Act.put, List.getElem_toArray, List.getElem_cons_zero, List.getElem_cons_succ, List.setIfInBounds_toArray, List.set_cons_zero, List.set_cons_succ])
          refine wpAnyT_more (S' := fun W => ((convert 28 9 (.slice A7 (putU (uN L.now)).length c7)).run Try.prog W = .ok (.string (uB L.now)) W) ∧ (convert 28 9 (.slice A8 (putU (uN L.all)).length c8)).run Try.prog W = .ok (.string (uB L.all)) W) (fun _ h => h.1) ?_
          have hHeld : (fun W => ((convert 28 9 (.slice A7 (putU (uN L.now)).length c7)).run Try.prog W = .ok (.string (uB L.now)) W) ∧ (convert 28 9 (.slice A8 (putU (uN L.all)).length c8)).run Try.prog W = .ok (.string (uB L.all)) W) w8 := ⟨hH8, hcv8 _ (Below.refl _ _)⟩
          clear hcv8 hH8
          refine wpAnyT_take (i := 11) (oi := _) (v := ?_) rfl (by kernel_rfl) (fun _ _ _ h => h) (Or.inl ⟨by kernel_rfl, ?_⟩) (by assumption) ?_; rotate_left; (focus (intro w hSw; (try dsimp only at hSw); go_simp; (try with_reducible rfl))); (try simp only [Act.put, List.getElem_toArray, List.getElem_cons_zero, List.getElem_cons_succ, List.setIfInBounds_toArray, List.set_cons_zero, List.set_cons_succ])
          refine wpAnyT_take (i := 12) (oi := _) (v := ?_) rfl (by kernel_rfl) (fun _ _ _ h => h) (Or.inl ⟨by kernel_rfl, ?_⟩) (by assumption) ?_; rotate_left; (focus (intro w hSw; (try dsimp only at hSw); go_simp; rw [if_neg (by (try simp only [ByteArray.size_append]); (try simp only [bz_size]); omega)])); (try simp only [Act.put, List.getElem_toArray, List.getElem_cons_zero, List.getElem_cons_succ, List.setIfInBounds_toArray, List.set_cons_zero, List.set_cons_succ])
          refine wpAnyT_take (i := 13) (oi := _) (v := ?_) rfl (by kernel_rfl) (fun _ _ _ h => h) (Or.inl ⟨by kernel_rfl, ?_⟩) (by assumption) ?_; rotate_left; (focus (intro w hSw; (try dsimp only at hSw); go_simp; (try with_reducible rfl))); (try simp only [Act.put, List.getElem_toArray, List.getElem_cons_zero, List.getElem_cons_succ, List.setIfInBounds_toArray, List.set_cons_zero, List.set_cons_succ])
          refine wpAnyT_done (by kernel_rfl) ?_ _
          have HWz9 : Hid (Below w.heap.size w w8) := Lib.hid (HWz.out.trans (((below_drewN_ (Below.refl _ _) 1).trans (hb7.trans (hb8.mono hb7.size))).mono HWz.out.size))
          clear hHeld Hk7 HV7 HVd hb7 hb8
          go_wp2
          go_ret
          refine ⟨?_, HWz9.out⟩
          rw [HTU.out]; rfl
end St
end Go.Proofs.Ytlljpjehalodfaa
