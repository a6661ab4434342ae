/- CommitPaces: slices.Clone; a commit in memory; New. -/
import Derived.Test.YtibnehaibgbliaaGreatProg
import Derived.Test.YtibnehaibgbliaaGreatCpA
import Derived.Test.YtibnehaibgbliaaGreatTailC
import Derived.Lib.SliceRun
import Derived.Lib.SmallJoins
namespace Go.Proofs.YtibnehaibgbliaaGreat.Cp
set_option linter.unusedVariables false
set_option linter.unusedSimpArgs false
open Go.RowKit Go.Proofs.YtibnehaibgbliaaGreat

theorem Tryz.infoEn : (Tryz.prog.info? 85).map (fun i => (i.zero, i.size, i.bytes)) = some (some (.agg #[.string ⟨#[]⟩, .int .i64 0, .string ⟨#[]⟩, .int .i64 0, .int .i64 0, .int .i64 0, .int .i64 0, .int .u32 0, .int .i64 0]), 9, 88) := by kernel_rfl
theorem Tryz.infoMk : (Tryz.prog.info? 90).map (fun i => (i.zero, i.size, i.bytes)) = some (some (.agg #[.int .i64 0, .int .i64 0]), 2, 16) := by kernel_rfl
theorem Tryz.infoStr : (Tryz.prog.info? 9).map (fun i => (i.zero, i.size, i.bytes)) = some (some (.string ⟨#[]⟩), 1, 16) := by kernel_rfl
theorem strs_one' (l : List ByteArray) : ∀ u ∈ l.map Value.string, u.oneCell' = true := by
  intro u hu
  obtain ⟨x, _, rfl⟩ := List.mem_map.1 hu
  rfl
set_option maxRecDepth 100000 in
theorem cloneE_calls (w : World) {B c : Nat} {A : Option Addr} {l : List En} (h : Reads w B 9 A l.length (l.flatMap En.cs)) (hB : B ≤ w.heap.size) (hn : l.length ≤ 1099511627776) :
    Calls Tryz.prog 27 #[.slice A l.length c] w fun e w' => ∃ A' c', e = .returned (.slice A' l.length c') ∧ Below w.heap.size w w' := by
  have hq := fun W => Lib.run_eql_slice_nil (P := Tryz.prog) W 22 85 A l.length c 0 0 Tryz.underlying22
  rcases A with _ | ad
  · have hq2 : ∀ W, (binOp .eql 22 (.slice none l.length c) (.slice none 0 0)).run Tryz.prog W = .ok (.bool true) W := fun W => by rw [hq]; rfl
    have hl : l.length = 0 := by
      rcases Nat.eq_zero_or_pos l.length with h0 | h0
      · exact h0
      · obtain ⟨b, off, e, _⟩ := h.2 h0
        cases e
    have HL := Lib.hid hl
    clear hq hl h
    go_enter Tryz.func27, Tryz.ntmps27
    go_wp2
    go_ret
    exact ⟨none, 0, by rw [HL.out]; rfl, Below.refl _ _⟩
  · have hq2 : ∀ W, (binOp .eql 22 (.slice (some ad) l.length c) (.slice none 0 0)).run Tryz.prog W = .ok (.bool false) W := fun W => by rw [hq]; rfl
    clear hq
    go_enter Tryz.func27, Tryz.ntmps27
    go_wp2_with (at_builtin; go_must (refine wpList_append_sl _ rfl (.tmp 5) (.tmp 6) _ rfl w.heap.size 85 _ 9 88 Tryz.underlying22 Tryz.infoEn rfl (by omega) _ _ _ rfl (World.ownsRow_made w #[] 0 (Nat.le_refl _) (Nat.zero_le _) rfl) B (some ad) l.length c (l.flatMap En.cs) rfl (Reads.to h ((Below.refl B w).alloc hB _) (Nat.le_refl _)) (ecs_one l) (by unfold maxLen; omega) (by omega) (by simp) ?_))
    intro A' c' w1 hc1 hc2 hrd hbel hown _ _
    go_wp2
    go_ret
    exact ⟨A', c', by simp, ((Below.refl _ _).alloc (Nat.le_refl _) _).trans hbel⟩
set_option maxRecDepth 100000 in
theorem cloneM_calls (w : World) {B c : Nat} {A : Option Addr} {l : List Mk} (h : Reads w B 2 A l.length (l.flatMap Mk.cs)) (hB : B ≤ w.heap.size) (hn : l.length ≤ 1099511627776) :
    Calls Tryz.prog 29 #[.slice A l.length c] w fun e w' => ∃ A' c', e = .returned (.slice A' l.length c') ∧ Below w.heap.size w w' := by
  have hq := fun W => Lib.run_eql_slice_nil (P := Tryz.prog) W 24 90 A l.length c 0 0 Tryz.underlying24
  rcases A with _ | ad
  · have hq2 : ∀ W, (binOp .eql 24 (.slice none l.length c) (.slice none 0 0)).run Tryz.prog W = .ok (.bool true) W := fun W => by rw [hq]; rfl
    have hl : l.length = 0 := by
      rcases Nat.eq_zero_or_pos l.length with h0 | h0
      · exact h0
      · obtain ⟨b, off, e, _⟩ := h.2 h0
        cases e
    have HL := Lib.hid hl
    clear hq hl h
    go_enter Tryz.func29, Tryz.ntmps29
    go_wp2
    go_ret
    exact ⟨none, 0, by rw [HL.out]; rfl, Below.refl _ _⟩
  · have hq2 : ∀ W, (binOp .eql 24 (.slice (some ad) l.length c) (.slice none 0 0)).run Tryz.prog W = .ok (.bool false) W := fun W => by rw [hq]; rfl
    clear hq
    go_enter Tryz.func29, Tryz.ntmps29
    go_wp2_with (at_builtin; go_must (refine wpList_append_sl _ rfl (.tmp 5) (.tmp 6) _ rfl w.heap.size 90 _ 2 16 Tryz.underlying24 Tryz.infoMk rfl (by omega) _ _ _ rfl (World.ownsRow_made w #[] 0 (Nat.le_refl _) (Nat.zero_le _) rfl) B (some ad) l.length c (l.flatMap Mk.cs) rfl (Reads.to h ((Below.refl B w).alloc hB _) (Nat.le_refl _)) (mcs_one l) (by unfold maxLen; omega) (by omega) (by simp) ?_))
    intro A' c' w1 hc1 hc2 hrd hbel hown _ _
    go_wp2
    go_ret
    exact ⟨A', c', by simp, ((Below.refl _ _).alloc (Nat.le_refl _) _).trans hbel⟩
set_option maxRecDepth 100000 in
theorem cloneS_calls (w : World) {B c : Nat} {A : Option Addr} {l : List ByteArray} (h : Reads w B 1 A l.length (l.map Value.string)) (hB : B ≤ w.heap.size) (hn : l.length ≤ 1099511627776) :
    Calls Tryz.prog 28 #[.slice A l.length c] w fun e w' => ∃ A' c', e = .returned (.slice A' l.length c') ∧ Below w.heap.size w w' := by
  have hq := fun W => Lib.run_eql_slice_nil (P := Tryz.prog) W 23 9 A l.length c 0 0 Tryz.underlying23
  rcases A with _ | ad
  · have hq2 : ∀ W, (binOp .eql 23 (.slice none l.length c) (.slice none 0 0)).run Tryz.prog W = .ok (.bool true) W := fun W => by rw [hq]; rfl
    have hl : l.length = 0 := by
      rcases Nat.eq_zero_or_pos l.length with h0 | h0
      · exact h0
      · obtain ⟨b, off, e, _⟩ := h.2 h0
        cases e
    have HL := Lib.hid hl
    clear hq hl h
    go_enter Tryz.func28, Tryz.ntmps28
    go_wp2
    go_ret
    exact ⟨none, 0, by rw [HL.out]; rfl, Below.refl _ _⟩
  · have hq2 : ∀ W, (binOp .eql 23 (.slice (some ad) l.length c) (.slice none 0 0)).run Tryz.prog W = .ok (.bool false) W := fun W => by rw [hq]; rfl
    clear hq
    go_enter Tryz.func28, Tryz.ntmps28
    go_wp2_with (at_builtin; go_must (refine wpList_append_sl _ rfl (.tmp 5) (.tmp 6) _ rfl w.heap.size 9 _ 1 16 Tryz.underlying23 Tryz.infoStr rfl (by omega) _ _ _ rfl (World.ownsRow_made w #[] 0 (Nat.le_refl _) (Nat.zero_le _) rfl) B (some ad) l.length c (l.map Value.string) rfl (Reads.to h ((Below.refl B w).alloc hB _) (Nat.le_refl _)) (strs_one' l) (by unfold maxLen; omega) (by omega) (by simp) ?_))
    intro A' c' w1 hc1 hc2 hrd hbel hown _ _
    go_wp2
    go_ret
    exact ⟨A', c', by simp, ((Below.refl _ _).alloc (Nat.le_refl _) _).trans hbel⟩
theorem Edi.below {w w' : World} {B : Nat} {d : Ed} {p : Pd} (h : Edi w B d p) (hb : Below B w w') : Edi w' B d p := ⟨h.ra.below hb, h.rd.below hb, h.rm.below hb, h.la, h.ld, h.lm, h.ca, h.cd, h.cm, h.ok, h.okd⟩
/-- An edit's eight values. -/
structure V8 where
  a : Value
  b : Value
  m : Value
  cut : Int
  fence : Int
  ag : Int
  li : Int
  co : Int
/-- A commit of which no call was answered. -/
abbrev cqA (V : V8) (tries wait fails due : Int) (asked : Bool) (st er : Int) : Array Value :=
  #[V.a, V.b, V.m, .int .i64 V.cut, .int .i64 V.fence, .int .i64 V.ag, .int .i64 V.li, .int .i64 V.co, .int .i64 tries, .int .i64 wait, .int .i64 fails, .int .i64 due, .int .i64 0, .bool asked, .bool false,
    .int .i64 0, .int .i64 0, .int .i64 0, .slice none 0 0, .slice none 0 0, .slice none 0 0, .int .i64 0, .int .i64 0, .int .i64 0, .slice none 0 0, .slice none 0 0, .slice none 0 0, .int .i64 st, .int .i64 er]
set_option maxRecDepth 100000 in
set_option maxHeartbeats 3200000 in
theorem new_bad (w : World) {x : Ed} {q : Pd} (tries wait : Int) (h : tries < 1 ∨ 8 < tries ∨ wait < 0 ∨ 1099511627776 < wait) :
    Calls Tryz.prog 9 #[edV x q, .int .i64 tries, .int .i64 wait] w fun e w' => e = .returned (.pointer none) ∧ Below w.heap.size w w' := by
  by_cases h1 : tries < 1
  · have d1 : decide (tries < 1) = true := dct h1
    go_enter Tryz.func9, Tryz.ntmps9
    go_wp2
    go_ret
    exact ⟨rfl, (Below.refl _ _).alloc (Nat.le_refl _) _⟩
  have d1 : decide (tries < 1) = false := dcf h1
  by_cases h2 : 8 < tries
  · have d2 : decide (8 < tries) = true := dct h2
    go_enter Tryz.func9, Tryz.ntmps9
    go_wp2
    go_ret
    exact ⟨rfl, (Below.refl _ _).alloc (Nat.le_refl _) _⟩
  have d2 : decide (8 < tries) = false := dcf h2
  by_cases h3 : wait < 0
  · have d3 : decide (wait < 0) = true := dct h3
    go_enter Tryz.func9, Tryz.ntmps9
    go_wp2
    go_ret
    exact ⟨rfl, (Below.refl _ _).alloc (Nat.le_refl _) _⟩
  have d3 : decide (wait < 0) = false := dcf h3
  have d4 : decide (1099511627776 < wait) = true := dct (by omega)
  go_enter Tryz.func9, Tryz.ntmps9
  go_wp2
  go_ret
  exact ⟨rfl, (Below.refl _ _).alloc (Nat.le_refl _) _⟩
set_option maxRecDepth 100000 in
set_option maxHeartbeats 6400000 in
theorem new_calls (w : World) {B : Nat} {x : Ed} {q : Pd} (h : Edi w B x q) (hB : B ≤ w.heap.size) (l1 : x.add.length ≤ 1000) (l2 : x.drop.length ≤ 1000) (l3 : x.marks.length ≤ 1000) (tries wait : Int) (h1 : 1 ≤ tries) (h2 : tries ≤ 8) (h3 : 0 ≤ wait) (h4 : wait ≤ 1099511627776) :
    Calls Tryz.prog 9 #[edV x q, .int .i64 tries, .int .i64 wait] w fun e w' => ∃ g V, e = .returned (.pointer (some ⟨g, 0, none⟩)) ∧ w.heap.size ≤ g ∧ Blk w' g 92 (cqA V tries wait 0 0 false 0 0) ∧ Below w.heap.size w w' := by
  have d1 : decide (tries < 1) = false := dcf (by omega)
  have d2 : decide (8 < tries) = false := dcf (by omega)
  have d3 : decide (wait < 0) = false := dcf (by omega)
  have d4 : decide (1099511627776 < wait) = false := dcf (by omega)
  have HE := Lib.hid h
  clear h
  go_enter Tryz.func9, Tryz.ntmps9
  go_upto_region 3 with fail
  have hbk := Blk.new w 28 #[.slice q.AA x.add.length q.cA, .slice q.AD x.drop.length q.cD, .slice q.AM x.marks.length q.cM, .int .i64 x.cut, .int .i64 x.fence, .int .i64 x.by_.agent, .int .i64 x.by_.life, .int .i64 x.by_.count]
  have hba := (Below.refl w.heap.size w).alloc (Nat.le_refl _) (.cells #[.slice q.AA x.add.length q.cA, .slice q.AD x.drop.length q.cD, .slice q.AM x.marks.length q.cM, .int .i64 x.cut, .int .i64 x.fence, .int .i64 x.by_.agent, .int .i64 x.by_.life, .int .i64 x.by_.count] 28)
  obtain ⟨gx, hgx⟩ : ∃ gx, gx = w.heap.size := ⟨_, rfl⟩
  rw [← hgx] at hbk ⊢
  have HGX := Lib.hid hgx
  clear hgx
  generalize w.alloc (.cells #[.slice q.AA x.add.length q.cA, .slice q.AD x.drop.length q.cD, .slice q.AM x.marks.length q.cM, .int .i64 x.cut, .int .i64 x.fence, .int .i64 x.by_.agent, .int .i64 x.by_.life, .int .i64 x.by_.count] 28) = wa at *
  have HBk := Lib.hid hbk
  have HBa := Lib.hid hba
  clear hbk hba
  have Hc : Hid (∀ W, Below wa.heap.size wa W → W.cell? ⟨gx, 0, none⟩ = some (.slice q.AA x.add.length q.cA) ∧ W.cell? ⟨gx, 1, none⟩ = some (.slice q.AD x.drop.length q.cD) ∧ W.cell? ⟨gx, 2, none⟩ = some (.slice q.AM x.marks.length q.cM)) := Lib.hid fun W hW => by
    have h9 := HBk.out.below hW HBk.out.lt
    exact ⟨h9.cell 0, h9.cell 1, h9.cell 2⟩
  have HEa : Hid (∀ W, Below wa.heap.size wa W → Edi W B x q) := Lib.hid fun W hW => HE.out.below ((HBa.out.trans (hW.mono HBa.out.size)).mono hB)
  have HC1 := Lib.hid fun W (hW : Below wa.heap.size wa W) => cloneE_calls W (c := q.cA) (HEa.out W hW).ra (by have := hW.size; have := HBa.out.size; omega) (by omega)
  have HC2 := Lib.hid fun W (hW : Below wa.heap.size wa W) => cloneS_calls W (c := q.cD) (HEa.out W hW).rd (by have := hW.size; have := HBa.out.size; omega) (by omega)
  have HC3 := Lib.hid fun W (hW : Below wa.heap.size wa W) => cloneM_calls W (c := q.cM) (HEa.out W hW).rm (by have := hW.size; have := HBa.out.size; omega) (by omega)
  have HW0 : Hid (Below wa.heap.size wa wa.drew) := Lib.hid (below_drewN_ (Below.refl _ _) 1)
  refine wp_region_C (fun i => i == 10 || i == 11 || i == 12 || i == 13 || i == 14) (fun w' => w'.cell? ⟨gx, 0, none⟩ = some (.slice q.AA x.add.length q.cA) ∧ w'.cell? ⟨gx, 1, none⟩ = some (.slice q.AD x.drop.length q.cD) ∧ w'.cell? ⟨gx, 2, none⟩ = some (.slice q.AM x.marks.length q.cM)) (by kernel_rfl) (Hc.out _ HW0.out) (fun hHeld => ?_)
  generalize wa.drew = u0 at *
  refine wpAnyC_take (i := 0) (oi := _) (v := ?_) rfl (by kernel_rfl) (fun _ _ _ h => h) (Or.inl ⟨by kernel_rfl, ?_⟩) (by assumption) ?_; rotate_left; (focus (intro w hSw; (try dsimp only at hSw); go_simp; (try with_reducible rfl))); (try simp only [Act.put, List.getElem_toArray, List.getElem_cons_zero, List.setIfInBounds_toArray, List.set_cons_zero, List.set_cons_succ])
  refine wpAnyC_take (i := 1) (oi := _) (v := ?_) rfl (by kernel_rfl) (fun _ _ _ h => h) (Or.inl ⟨by kernel_rfl, ?_⟩) (by assumption) ?_; rotate_left; (focus (intro w hSw; (try dsimp only at hSw); go_simp; (try with_reducible rfl))); (try simp only [Act.put, List.getElem_toArray, List.getElem_cons_zero, List.getElem_cons_succ, List.setIfInBounds_toArray, List.set_cons_zero, List.set_cons_succ])
  refine wpAnyC_take (i := 3) (oi := _) (v := ?_) rfl (by kernel_rfl) (fun _ _ _ h => h) (Or.inl ⟨by kernel_rfl, ?_⟩) (by assumption) ?_; rotate_left; (focus (intro w hSw; (try dsimp only at hSw); go_simp; (try with_reducible rfl))); (try simp only [Act.put, List.getElem_toArray, List.getElem_cons_zero, List.getElem_cons_succ, List.setIfInBounds_toArray, List.set_cons_zero, List.set_cons_succ])
  refine wpAnyC_take (i := 4) (oi := _) (v := ?_) rfl (by kernel_rfl) (fun _ _ _ h => h) (Or.inl ⟨by kernel_rfl, ?_⟩) (by assumption) ?_; rotate_left; (focus (intro w hSw; (try dsimp only at hSw); go_simp; (try with_reducible rfl))); (try simp only [Act.put, List.getElem_toArray, List.getElem_cons_zero, List.getElem_cons_succ, List.setIfInBounds_toArray, List.set_cons_zero, List.set_cons_succ])
  refine wpAnyC_take (i := 6) (oi := _) (v := ?_) rfl (by kernel_rfl) (fun _ _ _ h => h) (Or.inl ⟨by kernel_rfl, ?_⟩) (by assumption) ?_; rotate_left; (focus (intro w hSw; (try dsimp only at hSw); go_simp; (try with_reducible rfl))); (try simp only [Act.put, List.getElem_toArray, List.getElem_cons_zero, List.getElem_cons_succ, List.setIfInBounds_toArray, List.set_cons_zero, List.set_cons_succ])
  refine wpAnyC_take (i := 7) (oi := _) (v := ?_) rfl (by kernel_rfl) (fun _ _ _ h => h) (Or.inl ⟨by kernel_rfl, ?_⟩) (by assumption) ?_; rotate_left; (focus (intro w hSw; (try dsimp only at hSw); go_simp; (try with_reducible rfl))); (try simp only [Act.put, List.getElem_toArray, List.getElem_cons_zero, List.getElem_cons_succ, List.setIfInBounds_toArray, List.set_cons_zero, List.set_cons_succ])
  refine wpAnyC_one (i := 2) (by kernel_rfl) rfl (fun K hK => ?_); go_simp
  refine (HC1.out u0 HW0.out).mono ?_
  rintro en u1 ⟨A1, c1, rfl, hb1⟩
  have HB1 := Lib.hid (HW0.out.trans (hb1.mono HW0.out.size))
  have hS1 := Hc.out _ HB1.out
  refine hK.out _ _ (fun _ => hS1) ?_
  clear hK K hHeld hb1
  (try simp only [Act.put, List.getElem_toArray, List.getElem_cons_zero, List.getElem_cons_succ, List.setIfInBounds_toArray, List.set_cons_zero, List.set_cons_succ])
  refine wpAnyC_take (i := 9) (oi := _) (v := ?_) rfl (by kernel_rfl) (fun _ _ _ h => h) (Or.inl ⟨by kernel_rfl, ?_⟩) (by assumption) ?_; rotate_left; (focus (intro w hSw; (try dsimp only at hSw); go_simp; (try with_reducible rfl))); (try simp only [Act.put, List.getElem_toArray, List.getElem_cons_zero, List.getElem_cons_succ, List.setIfInBounds_toArray, List.set_cons_zero, List.set_cons_succ])
  refine wpAnyC_one (i := 5) (by kernel_rfl) rfl (fun K hK => ?_); go_simp
  refine (HC2.out u1 HB1.out).mono ?_
  rintro en u2 ⟨A2, c2, rfl, hb2⟩
  have HB2 := Lib.hid (HB1.out.trans (hb2.mono HB1.out.size))
  have hS2 := Hc.out _ HB2.out
  refine hK.out _ _ (fun _ => hS2) ?_
  clear hK K hS1 hb2 HB1
  (try simp only [Act.put, List.getElem_toArray, List.getElem_cons_zero, List.getElem_cons_succ, List.setIfInBounds_toArray, List.set_cons_zero, List.set_cons_succ])
  refine wpAnyC_one (i := 8) (by kernel_rfl) rfl (fun K hK => ?_); go_simp
  refine (HC3.out u2 HB2.out).mono ?_
  rintro en u3 ⟨A3, c3, rfl, hb3⟩
  have HB3 := Lib.hid (HB2.out.trans (hb3.mono HB2.out.size))
  have hS3 := Hc.out _ HB3.out
  refine hK.out _ _ (fun _ => hS3) ?_
  clear hK K hS2 hb3 HB2
  (try simp only [Act.put, List.getElem_toArray, List.getElem_cons_zero, List.getElem_cons_succ, List.setIfInBounds_toArray, List.set_cons_zero, List.set_cons_succ])
  have HBk3 := Lib.hid (HBk.out.below HB3.out HBk.out.lt)
  have HB03 : Hid (Below w.heap.size w u3) := Lib.hid (HBa.out.trans (HB3.out.mono HBa.out.size))
  have f0 := HBk3.out.frozen 0
  have f1 := HBk3.out.frozen 1
  have f2 := HBk3.out.frozen 2
  clear HC1 HC2 HC3 HEa Hc HB3
  have b1 := HBk3.out.set_ 0 (.slice A1 x.add.length c1)
  have b2 := b1.set_ 1 (.slice A2 x.drop.length c2)
  have b3 := b2.set_ 2 (.slice A3 x.marks.length c3)
  simp only [List.setIfInBounds_toArray, List.set_cons_zero, List.set_cons_succ] at b1 b2 b3
  have g1 := b1.frozen 1
  have g2 := b2.frozen 2
  have HBz := Lib.hid b3
  have HBl : Hid (Below w.heap.size w (((u3.setCell ⟨gx, 0, none⟩ (.slice A1 x.add.length c1)).setCell ⟨gx, 1, none⟩ (.slice A2 x.drop.length c2)).setCell ⟨gx, 2, none⟩ (.slice A3 x.marks.length c3))) := Lib.hid (((HB03.out.setCell (p := ⟨gx, 0, none⟩) (show w.heap.size ≤ gx by have := HGX.out; omega) _).setCell (p := ⟨gx, 1, none⟩) (show w.heap.size ≤ gx by have := HGX.out; omega) _).setCell (p := ⟨gx, 2, none⟩) (show w.heap.size ≤ gx by have := HGX.out; omega) _)
  clear b1 b2 b3
  refine wpAnyC_one (i := 10) (by kernel_rfl) rfl (fun K hK => ?_); go_simp
  refine hK.out _ _ (fun h => by cases h) ?_
  clear hK K
  (try simp only [Act.put, List.getElem_toArray, List.getElem_cons_zero, List.getElem_cons_succ, List.setIfInBounds_toArray, List.set_cons_zero, List.set_cons_succ])
  refine wpAnyC_one (i := 11) (by kernel_rfl) rfl (fun K hK => ?_); go_simp
  refine hK.out _ _ (fun h => by cases h) ?_
  clear hK K
  (try simp only [Act.put, List.getElem_toArray, List.getElem_cons_zero, List.getElem_cons_succ, List.setIfInBounds_toArray, List.set_cons_zero, List.set_cons_succ])
  refine wpAnyC_one (i := 12) (by kernel_rfl) rfl (fun K hK => ?_); go_simp
  refine hK.out _ _ (fun h => by cases h) ?_
  clear hK K
  (try simp only [Act.put, List.getElem_toArray, List.getElem_cons_zero, List.getElem_cons_succ, List.setIfInBounds_toArray, List.set_cons_zero, List.set_cons_succ])
  refine wpAnyC_one (i := 13) (by kernel_rfl) rfl (fun K hK => ?_); go_simp
  refine hK.out _ _ (fun h => by cases h) ?_
  clear hK K
  (try simp only [Act.put, List.getElem_toArray, List.getElem_cons_zero, List.getElem_cons_succ, List.setIfInBounds_toArray, List.set_cons_zero, List.set_cons_succ])
  refine wpAnyC_one (i := 14) (by kernel_rfl) rfl (fun K hK => ?_); go_simp
  refine hK.out _ _ (fun h => by cases h) (wpAnyC_done (by kernel_rfl) ?_ _)
  clear hK K
  generalize ((u3.setCell ⟨gx, 0, none⟩ (.slice A1 x.add.length c1)).setCell ⟨gx, 1, none⟩ (.slice A2 x.drop.length c2)).setCell ⟨gx, 2, none⟩ (.slice A3 x.marks.length c3) = u4 at *
  have z0 := HBz.out.cell 0
  have z1 := HBz.out.cell 1
  have z2 := HBz.out.cell 2
  have z3 := HBz.out.cell 3
  have z4 := HBz.out.cell 4
  have z5 := HBz.out.cell 5
  have z6 := HBz.out.cell 6
  have z7 := HBz.out.cell 7
  simp only [List.getElem?_toArray, List.getElem?_cons_zero, List.getElem?_cons_succ] at z0 z1 z2 z3 z4 z5 z6 z7
  clear f0 f1 f2 g1 g2
  go_wp2
  go_ret
  exact ⟨u4.heap.size, ⟨.slice A1 x.add.length c1, .slice A2 x.drop.length c2, .slice A3 x.marks.length c3, x.cut, x.fence, x.by_.agent, x.by_.life, x.by_.count⟩, rfl, HBl.out.size, Blk.new _ _ _, HBl.out.alloc HBl.out.size _⟩
end Go.Proofs.YtibnehaibgbliaaGreat.Cp
