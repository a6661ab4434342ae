/- An upload begun (chapter 14). -/
import Derived.Test.YtlljpjehalodfaaGreatProg
import Derived.Test.YtlljpjehalodfaaGreatStQ
import Derived.Test.YtlljpjehalodfaaGreatStG0
import Derived.Test.YtlljpjehalodfaaGreatMapO
namespace Go.Proofs.YtlljpjehalodfaaGreat
open Go.RowKit
namespace St

noncomputable def LS.begun (L : LS) (k : ByteArray) (b : Nat) : LS := { L with id := L.id + 1, ups := mput kI.lt L.ups (L.id + 1) ⟨k, L.now, b, []⟩ }
theorem wfI {x : Int} (h0 : -9223372036854775808 ≤ x) (h1 : x ≤ 9223372036854775807) : (Lit.int .i64 x).wf = true := by
  have e0 : IntKind.i64.min = -9223372036854775808 := by decide
  have e1 : IntKind.i64.max = 9223372036854775807 := by decide
  show (decide (IntKind.i64.min ≤ x) && decide (x ≤ IntKind.i64.max)) = true
  rw [e0, e1, dct h0, dct h1]; rfl
/-- The uploads turn to others. -/
theorem At.upsTo {w w' : World} {L : LS} (h : At w L) (hg : w.grownBy w' (some L.bu)) {l : List (Int × Up)} (hm : MapAt kI evU w' L.bu l) (hum : ∀ p ∈ l, MapAt kI evP w p.2.b p.2.parts) (hud : ∀ p ∈ l, ∀ q ∈ p.2.parts, Dat w L.gs q.2.A q.2.c q.2.d)
    (hub : ∀ p ∈ l, p.2.b ≠ L.bo ∧ p.2.b ≠ L.bu) (hone : ∀ p ∈ l, ∀ q ∈ l, p.2.b = q.2.b → p.1 = q.1) (huk : ∀ p ∈ l, p.2.key.size ≤ maxLen) : At w' { L with ups := l } := by
  have hk : Keep L.foot w w' := Keep.of_grown hg fun i e => by injection e with e; exact .inr (.inr (.inl e))
  exact ⟨h.blk.grown hg (fun e => by injection e with e; exact h.gs_bu e), h.mo.kept hg (fun e => by injection e with e; exact h.ne e), hm, fun p hp => h.dat (h.od p hp) hk, fun p hp => (hum p hp).kept hg (fun e => by injection e with e; exact (hub p hp).2 e), fun p hp q hq => h.dat (hud p hp q hq) hk, h.ne, hub, hone, huk⟩
theorem At.begin {w w' : World} {L : LS} (h : At w L) {k : ByteArray} {id : Int} (hk : k.size ≤ maxLen) {u : Up} (hb : u = ⟨k, L.now, w.heap.size, []⟩) (hg : (w.alloc (.map #[] 0)).grownBy w' (some L.bu)) (hm : MapAt kI evU w' L.bu (mput kI.lt L.ups id u)) : At w' { L with ups := mput kI.lt L.ups id u } := by
  have h1 := h.alloc (.map #[] 0)
  have hlt : ∀ p ∈ L.ups, p.2.b < w.heap.size := fun p hp => (h.um p hp).lt_
  have h2 := h.mo.lt_
  have h3 := h.mu.lt_
  refine h1.upsTo hg hm (fun p hp => ?_) (fun p hp => ?_) (fun p hp => ?_) (fun p hp q hq => ?_) (fun p hp => ?_)
  · rcases mput_mem.1 hp with rfl | ⟨hp, _⟩
    · rw [hb]; exact MapAt.new kI evP w
    · exact h1.um p hp
  · rcases mput_mem.1 hp with rfl | ⟨hp, _⟩
    · rw [hb]; intro q hq; cases hq
    · exact h1.ud p hp
  · rcases mput_mem.1 hp with rfl | ⟨hp, _⟩
    · rw [hb]; dsimp only; omega
    · exact h1.ub p hp
  · rcases mput_mem.1 hp with rfl | ⟨hp, _⟩
    · rcases mput_mem.1 hq with rfl | ⟨hq, _⟩
      · intro _; rfl
      · intro e; have := hlt q hq; rw [hb] at e; dsimp only at e; omega
    · rcases mput_mem.1 hq with rfl | ⟨hq, _⟩
      · intro e; have := hlt p hp; rw [hb] at e; dsimp only at e; omega
      · exact h1.one p hp q hq
  · rcases mput_mem.1 hp with rfl | ⟨hp, _⟩
    · rw [hb]; exact hk
    · exact h1.uk p hp
def RetCreate (w : World) (L : LS) (x : Cl) (e : Ending) (w' : World) : Prop :=
  (L.pure.createE x.pure ≠ 0 ∧ RetE w L (L.pure.createE x.pure) e w') ∨ (L.pure.createE x.pure = 0 ∧ ∃ b, w.heap.size ≤ b ∧ e = .returned (.agg #[.int .i64 0, .slice none 0 0, .int .i64 0, .int .i64 L.now, .int .i64 (L.id + 1), .slice none 0 0, .bool false]) ∧ At w' (L.begun x.key b) ∧ Keep L.foot w w')
set_option maxRecDepth 100000 in
set_option maxHeartbeats 16000000 in
theorem create_calls (w : World) {L : LS} {n : Nat} {x : Cl} (h : At w L) (hi : Inv L n) (hn : n ≤ 1000000) (hd : Dat w L.gs x.A x.c x.d) (hk : x.key.size ≤ maxLen) :
    Calls Tryz.prog 19 #[.pointer (some ⟨L.gs, 0, none⟩), x.val] w (RetCreate w L x) := by
  have HF := Lib.hid (Fr.start L.foot h hd)
  have HU := Lib.hid Tryz.underlying49
  have HCE : Hid (L.pure.createE x.pure = if rightB x.key = false then 1 else if 512 ≤ L.ups.length then 9 else 0) := Lib.hid (by
    unfold PS.createE
    show (if _ then _ else if 512 ≤ (L.ups.map _).length then _ else _) = _
    rw [List.length_map]; rfl)
  unfold RetCreate
  generalize L.pure.createE x.pure = CE at *
  have hgs := h.blk.lt
  have hi0 := hi.i0
  have hi1 := hi.i1
  have hun := hi.un
  have hmm := @run_makeMap Tryz.prog
  obtain ⟨kind, key, A, c, d, ver, at_, nn, id⟩ := x
  dsimp only [Cl.val, Cl.cells] at *
  clear h hd hi
  go_enter Tryz.func19, Tryz.ntmps19
  go_upto_block 0 with fail
  unfold rep0 at HF
  generalize (w.alloc (.cells #[.int .i64 kind, .string key, .slice A d.length c, .int .i64 ver, .int .i64 at_, .int .i64 nn, .int .i64 id] 34)).alloc (.cells #[.int .i64 0, .slice none 0 0, .int .i64 0, .int .i64 0, .int .i64 0, .slice none 0 0, .bool false] 43) = w1 at *
  generalize hg4 : w.heap.size + 1 = g4 at *
  generalize hg3 : w.heap.size = g3 at *
  have k1 : w1.cell? ⟨g3, 1, none⟩ = some (.string key) := HF.out.call.cell 1
  go_wp2_with fail
  refine (right_calls w1 key).mono ?_
  rintro e w2 ⟨rfl, hb2⟩
  have HF2 := Lib.hid (HF.out.below hb2)
  clear hb2 HF k1
  have q0 : w2.cell? ⟨g4, 0, none⟩ = some (.int .i64 0) := HF2.out.res.cell 0
  have p0 : w2.frozen? ⟨g4, 0, none⟩ = false := HF2.out.res.frozen 0
  have q1 : w2.cell? ⟨g4, 1, none⟩ = some (.slice none 0 0) := HF2.out.res.cell 1
  have p1 : w2.frozen? ⟨g4, 1, none⟩ = false := HF2.out.res.frozen 1
  have q2 : w2.cell? ⟨g4, 2, none⟩ = some (.int .i64 0) := HF2.out.res.cell 2
  have p2 : w2.frozen? ⟨g4, 2, none⟩ = false := HF2.out.res.frozen 2
  have q3 : w2.cell? ⟨g4, 3, none⟩ = some (.int .i64 0) := HF2.out.res.cell 3
  have p3 : w2.frozen? ⟨g4, 3, none⟩ = false := HF2.out.res.frozen 3
  have q4 : w2.cell? ⟨g4, 4, none⟩ = some (.int .i64 0) := HF2.out.res.cell 4
  have p4 : w2.frozen? ⟨g4, 4, none⟩ = false := HF2.out.res.frozen 4
  have q5 : w2.cell? ⟨g4, 5, none⟩ = some (.slice none 0 0) := HF2.out.res.cell 5
  have p5 : w2.frozen? ⟨g4, 5, none⟩ = false := HF2.out.res.frozen 5
  have q6 : w2.cell? ⟨g4, 6, none⟩ = some (.bool false) := HF2.out.res.cell 6
  have p6 : w2.frozen? ⟨g4, 6, none⟩ = false := HF2.out.res.frozen 6
  cases hr : rightB key with
  | false =>
    have HT : Hid (CE = 1) := Lib.hid (by rw [HCE.out, if_pos hr])
    go_wp2
    obtain ⟨hw, hA, hK⟩ := HF2.out.fin (.int .i64 1) (.slice none 0 0) (.int .i64 0) (.int .i64 0) (.int .i64 0) (.slice none 0 0) (.bool false)
    unfold set7 at hw hA hK
    refine bodyPost_ret (results_cell_row rfl _ _ g4 43 #[.int .i64 1, .slice none 0 0, .int .i64 0, .int .i64 0, .int .i64 0, .slice none 0 0, .bool false] (0, 0) _ rfl hw Tryz.underlying43 rfl (by kernel_rfl)) rfl ?_
    exact .inl ⟨by rw [HT.out]; decide, by rw [HT.out]; exact ⟨rfl, hA, hK⟩⟩
  | true =>
    have c1 : w2.cell? ⟨L.gs, 1, none⟩ = some (.map (some L.bu)) := HF2.out.at_.c_bu
    have hlen := HF2.out.at_.mu.len_run HU.out 3
    by_cases hfull : 512 ≤ L.ups.length
    · have HT : Hid (CE = 9) := Lib.hid (by rw [HCE.out, if_neg (by rw [hr]; decide), if_pos hfull])
      have d1 : decide ((512 : Int) ≤ (L.ups.length : Int)) = true := dct (by omega)
      go_wp2
      obtain ⟨hw, hA, hK⟩ := HF2.out.fin (.int .i64 9) (.slice none 0 0) (.int .i64 0) (.int .i64 0) (.int .i64 0) (.slice none 0 0) (.bool false)
      unfold set7 at hw hA hK
      refine bodyPost_ret (results_cell_row rfl _ _ g4 43 #[.int .i64 9, .slice none 0 0, .int .i64 0, .int .i64 0, .int .i64 0, .slice none 0 0, .bool false] (0, 0) _ rfl hw Tryz.underlying43 rfl (by kernel_rfl)) rfl ?_
      exact .inl ⟨by rw [HT.out]; decide, by rw [HT.out]; exact ⟨rfl, hA, hK⟩⟩
    · have HT : Hid (CE = 0) := Lib.hid (by rw [HCE.out, if_neg (by rw [hr]; decide), if_neg hfull])
      have d1 : decide ((512 : Int) ≤ (L.ups.length : Int)) = false := dcf (by omega)
      have c3 : w2.cell? ⟨L.gs, 3, none⟩ = some (.int .i64 L.id) := HF2.out.at_.c_id
      have f3 := HF2.out.at_.blk.frozen 3
      have r1 : IntKind.i64.wrap (L.id + 1) = L.id + 1 := by rw [IntKind.wrap_i64]; omega
      go_upto_region 6 with fail
      have hk3 : Keep L.foot w2 (w2.setCell ⟨L.gs, 3, none⟩ (.int .i64 (L.id + 1))) := (Keep.refl _ _).setCell (.inl (.inl rfl)) _
      have HF3 := Lib.hid (HF2.out.turn (L' := { L with id := L.id + 1 }) (HF2.out.at_.set rfl rfl rfl rfl rfl rfl) hk3 (fun _ _ h => h) rfl ⟨HF2.out.free.o, HF2.out.free.u⟩)
      clear hk3 HF2 c1 c3 f3 q0 q1 q2 q3 q4 q5 q6 p0 p1 p2 p3 p4 p5 p6 hlen
      generalize w2.setCell ⟨L.gs, 3, none⟩ (.int .i64 (L.id + 1)) = w3 at *
      have Hk6 : Hid (∀ W, Below w3.heap.size w3 W → W.cell? ⟨L.gs, 1, none⟩ = some (.map (some L.bu)) ∧ W.cell? ⟨L.gs, 3, none⟩ = some (.int .i64 (L.id + 1)) ∧ W.cell? ⟨g3, 1, none⟩ = some (.string key) ∧ W.cell? ⟨L.gs, 4, none⟩ = some (.int .i64 L.now)) := Lib.hid fun W hW => ⟨(HF3.out.at_.below hW).c_bu, (HF3.out.at_.below hW).c_id, (HF3.out.below hW).call.cell 1, (HF3.out.at_.below hW).c_now⟩
      refine wp_region_T 16 (fun w' => w'.cell? ⟨L.gs, 1, none⟩ = some (.map (some L.bu)) ∧ w'.cell? ⟨L.gs, 3, none⟩ = some (.int .i64 (L.id + 1)) ∧ w'.cell? ⟨g3, 1, none⟩ = some (.string key) ∧ w'.cell? ⟨L.gs, 4, none⟩ = some (.int .i64 L.now)) (by kernel_rfl) (Hk6.out _ (below_drewN_ (Below.refl _ _) 1)) (fun hHeld => ?_)
      refine wpAnyT_take (i := 0) (oi := _) (v := ?_) rfl (by kernel_rfl) (fun _ _ _ h => h) (Or.inl ⟨by kernel_rfl, ?_⟩) (by assumption) ?_; rotate_left; (focus (intro w hSw; (try dsimp only at hSw); go_simp; (try with_reducible rfl))); (try simp only [Act.put, List.getElem_toArray, List.getElem_cons_zero, List.setIfInBounds_toArray, List.set_cons_zero, List.set_cons_succ])
      refine wpAnyT_take (i := 1) (oi := _) (v := ?_) rfl (by kernel_rfl) (fun _ _ _ h => h) (Or.inl ⟨by kernel_rfl, ?_⟩) (by assumption) ?_; rotate_left; (focus (intro w hSw; (try dsimp only at hSw); go_simp; (try with_reducible rfl))); (try simp only [Act.put, List.getElem_toArray, List.getElem_cons_zero, List.getElem_cons_succ, List.setIfInBounds_toArray, List.set_cons_zero, List.set_cons_succ])
      refine wpAnyT_take (i := 2) (oi := _) (v := ?_) rfl (by kernel_rfl) (fun _ _ _ h => h) (Or.inl ⟨by kernel_rfl, ?_⟩) (by assumption) ?_; rotate_left; (focus (intro w hSw; (try dsimp only at hSw); go_simp; (try with_reducible rfl))); (try simp only [Act.put, List.getElem_toArray, List.getElem_cons_zero, List.getElem_cons_succ, List.setIfInBounds_toArray, List.set_cons_zero, List.set_cons_succ])
      refine wpAnyT_take (i := 3) (oi := _) (v := ?_) rfl (by kernel_rfl) (fun _ _ _ h => h) (Or.inl ⟨by kernel_rfl, ?_⟩) (by assumption) ?_; rotate_left; (focus (intro w hSw; (try dsimp only at hSw); go_simp; (try with_reducible rfl))); (try simp only [Act.put, List.getElem_toArray, List.getElem_cons_zero, List.getElem_cons_succ, List.setIfInBounds_toArray, List.set_cons_zero, List.set_cons_succ])
      refine wpAnyT_take (i := 4) (oi := _) (v := ?_) rfl (by kernel_rfl) (fun _ _ _ h => h) (Or.inl ⟨by kernel_rfl, ?_⟩) (by assumption) ?_; rotate_left; (focus (intro w hSw; (try dsimp only at hSw); go_simp; (try with_reducible rfl))); (try simp only [Act.put, List.getElem_toArray, List.getElem_cons_zero, List.getElem_cons_succ, List.setIfInBounds_toArray, List.set_cons_zero, List.set_cons_succ])
      refine wpAnyT_take (i := 5) (oi := _) (v := ?_) rfl (by kernel_rfl) (fun _ _ _ h => h) (Or.inl ⟨by kernel_rfl, ?_⟩) (by assumption) ?_; rotate_left; (focus (intro w hSw; (try dsimp only at hSw); go_simp; (try with_reducible rfl))); (try simp only [Act.put, List.getElem_toArray, List.getElem_cons_zero, List.getElem_cons_succ, List.setIfInBounds_toArray, List.set_cons_zero, List.set_cons_succ])
      refine wpAnyT_take (i := 6) (oi := _) (v := ?_) rfl (by kernel_rfl) (fun _ _ _ h => h) (Or.inl ⟨by kernel_rfl, ?_⟩) (by assumption) ?_; rotate_left; (focus (intro w hSw; (try dsimp only at hSw); go_simp; (try with_reducible rfl))); (try simp only [Act.put, List.getElem_toArray, List.getElem_cons_zero, List.getElem_cons_succ, List.setIfInBounds_toArray, List.set_cons_zero, List.set_cons_succ])
      refine wpAnyT_take (i := 7) (oi := _) (v := ?_) rfl (by kernel_rfl) (fun _ _ _ h => h) (Or.inl ⟨by kernel_rfl, ?_⟩) (by assumption) ?_; rotate_left; (focus (intro w hSw; (try dsimp only at hSw); go_simp; (try with_reducible rfl))); (try simp only [Act.put, List.getElem_toArray, List.getElem_cons_zero, List.getElem_cons_succ, List.setIfInBounds_toArray, List.set_cons_zero, List.set_cons_succ])
      refine wpAnyT_take (i := 8) (oi := _) (v := ?_) rfl (by kernel_rfl) (fun _ _ _ h => h) (Or.inl ⟨by kernel_rfl, ?_⟩) (by assumption) ?_; rotate_left; (focus (intro w hSw; (try dsimp only at hSw); go_simp; (try with_reducible rfl))); (try simp only [Act.put, List.getElem_toArray, List.getElem_cons_zero, List.getElem_cons_succ, List.setIfInBounds_toArray, List.set_cons_zero, List.set_cons_succ])
      refine wpAnyT_take (i := 9) (oi := _) (v := ?_) rfl (by kernel_rfl) (fun _ _ _ h => h) (Or.inl ⟨by kernel_rfl, ?_⟩) (by assumption) ?_; rotate_left; (focus (intro w hSw; (try dsimp only at hSw); go_simp; (try with_reducible rfl))); (try simp only [Act.put, List.getElem_toArray, List.getElem_cons_zero, List.getElem_cons_succ, List.setIfInBounds_toArray, List.set_cons_zero, List.set_cons_succ])
      refine wpAnyT_take (i := 10) (oi := _) (v := ?_) rfl (by kernel_rfl) (fun _ _ _ h => h) (Or.inl ⟨by kernel_rfl, ?_⟩) (by assumption) ?_; rotate_left; (focus (intro w hSw; (try dsimp only at hSw); go_simp; (try with_reducible rfl))); (try simp only [Act.put, List.getElem_toArray, List.getElem_cons_zero, List.getElem_cons_succ, List.setIfInBounds_toArray, List.set_cons_zero, List.set_cons_succ])
      refine wpAnyT_take (i := 11) (oi := _) (v := ?_) rfl (by kernel_rfl) (fun _ _ _ h => h) (Or.inl ⟨by kernel_rfl, ?_⟩) (by assumption) ?_; rotate_left; (focus (intro w hSw; (try dsimp only at hSw); go_simp; (try with_reducible rfl))); (try simp only [Act.put, List.getElem_toArray, List.getElem_cons_zero, List.getElem_cons_succ, List.setIfInBounds_toArray, List.set_cons_zero, List.set_cons_succ])
      refine wpAnyT_take (i := 12) (oi := _) (v := ?_) rfl (by kernel_rfl) (fun _ _ _ h => h) (Or.inl ⟨by kernel_rfl, ?_⟩) (by assumption) ?_; rotate_left; (focus (intro w hSw; (try dsimp only at hSw); go_simp; (try with_reducible rfl))); (try simp only [Act.put, List.getElem_toArray, List.getElem_cons_zero, List.getElem_cons_succ, List.setIfInBounds_toArray, List.set_cons_zero, List.set_cons_succ])
      refine wpAnyT_take (i := 13) (oi := _) (v := ?_) rfl (by kernel_rfl) (fun _ _ _ h => h) (Or.inl ⟨by kernel_rfl, ?_⟩) (by assumption) ?_; rotate_left; (focus (intro w hSw; (try dsimp only at hSw); go_simp; (try with_reducible rfl))); (try simp only [Act.put, List.getElem_toArray, List.getElem_cons_zero, List.getElem_cons_succ, List.setIfInBounds_toArray, List.set_cons_zero, List.set_cons_succ])
      refine wpAnyT_one (i := 14) (by kernel_rfl) rfl (fun K hK => ?_); go_simp
      have hb4 : Below w3.heap.size w3 (w3.drew.alloc (.map #[] 0)) := (below_drewN_ (Below.refl _ _) 1).alloc (Nat.le_refl _) _
      have hH4 := Hk6.out _ hb4
      refine hK.out _ _ (fun _ => hH4) ?_
      clear hK K hHeld
      refine wpAnyT_take (i := 15) (oi := _) (v := ?_) rfl (by kernel_rfl) (fun _ _ _ h => h) (Or.inl ⟨by kernel_rfl, ?_⟩) (by assumption) ?_; rotate_left; (focus (intro w hSw; (try dsimp only at hSw); go_simp; (try with_reducible rfl))); (try simp only [Act.put, List.getElem_toArray, List.getElem_cons_zero, List.getElem_cons_succ, List.setIfInBounds_toArray, List.set_cons_zero, List.set_cons_succ])
      have HFd := Lib.hid (HF3.out.below (below_drewN_ (Below.refl w3.heap.size w3) 1))
      have HF4 := Lib.hid (HF3.out.below hb4)
      have hid1 : (kI).ok (L.id + 1) := wfI (by omega) (by omega)
      refine wpAnyT_put _ _ _ (by kernel_rfl) rfl (by kernel_rfl) rfl HF4.out.at_.mu HU.out (L.id + 1) (⟨key, L.now, w3.heap.size, []⟩ : Up) rfl rfl rfl hid1 (by unfold maxLen; dsimp only; omega) (by kernel_rfl) ?_
      intro w5 hm5 hg5 hs5
      have hA5 : At w5 (L.begun key w3.heap.size) := HFd.out.at_.begin hk (id := L.id + 1) rfl hg5 hm5
      have hk5 : Keep L.foot w3.drew w5 := (Keep.of_below ((Below.refl _ _).alloc (Nat.le_refl _) _)).trans (Keep.of_grown hg5 fun i e => by injection e with e; exact .inr (.inr (.inl e)))
      have HF5 := Lib.hid (HFd.out.turn hA5 hk5 (fun _ _ h => h) rfl (by
        refine ⟨HFd.out.free.o, fun p hp => ?_⟩
        rcases mput_mem.1 hp with rfl | ⟨hp, _⟩
        · intro q hq; cases hq
        · exact HFd.out.free.u p hp))
      have hle : g3 ≤ w3.heap.size := by have := HF3.out.keep.size; omega
      clear hm5 hg5 hs5 hA5 hk5 HF3 HF4 HFd Hk6 hH4 hb4
      generalize w3.heap.size = bb at *
      go_upto_region 7 with fail
      have Hk7 : Hid (∀ W, Below w5.heap.size w5 W → W.cell? ⟨L.gs, 3, none⟩ = some (.int .i64 (L.id + 1)) ∧ W.cell? ⟨L.gs, 4, none⟩ = some (.int .i64 L.now)) := Lib.hid fun W hW => ⟨(HF5.out.at_.below hW).c_id, (HF5.out.at_.below hW).c_now⟩
      refine wp_region_T 9 (fun w' => w'.cell? ⟨L.gs, 3, none⟩ = some (.int .i64 (L.id + 1)) ∧ w'.cell? ⟨L.gs, 4, none⟩ = some (.int .i64 L.now)) (by kernel_rfl) (Hk7.out _ (below_drewN_ (Below.refl _ _) 1)) (fun hHeld => ?_)
      refine wpAnyT_take (i := 0) (oi := _) (v := ?_) rfl (by kernel_rfl) (fun _ _ _ h => h) (Or.inl ⟨by kernel_rfl, ?_⟩) (by assumption) ?_; rotate_left; (focus (intro w hSw; (try dsimp only at hSw); go_simp; (try with_reducible rfl))); (try simp only [Act.put, List.getElem_toArray, List.getElem_cons_zero, List.setIfInBounds_toArray, List.set_cons_zero, List.set_cons_succ])
      refine wpAnyT_take (i := 1) (oi := _) (v := ?_) rfl (by kernel_rfl) (fun _ _ _ h => h) (Or.inl ⟨by kernel_rfl, ?_⟩) (by assumption) ?_; rotate_left; (focus (intro w hSw; (try dsimp only at hSw); go_simp; (try with_reducible rfl))); (try simp only [Act.put, List.getElem_toArray, List.getElem_cons_zero, List.getElem_cons_succ, List.setIfInBounds_toArray, List.set_cons_zero, List.set_cons_succ])
      refine wpAnyT_take (i := 2) (oi := _) (v := ?_) rfl (by kernel_rfl) (fun _ _ _ h => h) (Or.inl ⟨by kernel_rfl, ?_⟩) (by assumption) ?_; rotate_left; (focus (intro w hSw; (try dsimp only at hSw); go_simp; (try with_reducible rfl))); (try simp only [Act.put, List.getElem_toArray, List.getElem_cons_zero, List.getElem_cons_succ, List.setIfInBounds_toArray, List.set_cons_zero, List.set_cons_succ])
      refine wpAnyT_take (i := 3) (oi := _) (v := ?_) rfl (by kernel_rfl) (fun _ _ _ h => h) (Or.inl ⟨by kernel_rfl, ?_⟩) (by assumption) ?_; rotate_left; (focus (intro w hSw; (try dsimp only at hSw); go_simp; (try with_reducible rfl))); (try simp only [Act.put, List.getElem_toArray, List.getElem_cons_zero, List.getElem_cons_succ, List.setIfInBounds_toArray, List.set_cons_zero, List.set_cons_succ])
      refine wpAnyT_take (i := 4) (oi := _) (v := ?_) rfl (by kernel_rfl) (fun _ _ _ h => h) (Or.inl ⟨by kernel_rfl, ?_⟩) (by assumption) ?_; rotate_left; (focus (intro w hSw; (try dsimp only at hSw); go_simp; (try with_reducible rfl))); (try simp only [Act.put, List.getElem_toArray, List.getElem_cons_zero, List.getElem_cons_succ, List.setIfInBounds_toArray, List.set_cons_zero, List.set_cons_succ])
      refine wpAnyT_take (i := 5) (oi := _) (v := ?_) rfl (by kernel_rfl) (fun _ _ _ h => h) (Or.inl ⟨by kernel_rfl, ?_⟩) (by assumption) ?_; rotate_left; (focus (intro w hSw; (try dsimp only at hSw); go_simp; (try with_reducible rfl))); (try simp only [Act.put, List.getElem_toArray, List.getElem_cons_zero, List.getElem_cons_succ, List.setIfInBounds_toArray, List.set_cons_zero, List.set_cons_succ])
      refine wpAnyT_take (i := 6) (oi := _) (v := ?_) rfl (by kernel_rfl) (fun _ _ _ h => h) (Or.inl ⟨by kernel_rfl, ?_⟩) (by assumption) ?_; rotate_left; (focus (intro w hSw; (try dsimp only at hSw); go_simp; (try with_reducible rfl))); (try simp only [Act.put, List.getElem_toArray, List.getElem_cons_zero, List.getElem_cons_succ, List.setIfInBounds_toArray, List.set_cons_zero, List.set_cons_succ])
      refine wpAnyT_take (i := 7) (oi := _) (v := ?_) rfl (by kernel_rfl) (fun _ _ _ h => h) (Or.inl ⟨by kernel_rfl, ?_⟩) (by assumption) ?_; rotate_left; (focus (intro w hSw; (try dsimp only at hSw); go_simp; (try with_reducible rfl))); (try simp only [Act.put, List.getElem_toArray, List.getElem_cons_zero, List.getElem_cons_succ, List.setIfInBounds_toArray, List.set_cons_zero, List.set_cons_succ])
      refine wpAnyT_take (i := 8) (oi := _) (v := ?_) rfl (by kernel_rfl) (fun _ _ _ h => h) (Or.inl ⟨by kernel_rfl, ?_⟩) (by assumption) ?_; rotate_left; (focus (intro w hSw; (try dsimp only at hSw); go_simp; (try with_reducible rfl))); (try simp only [Act.put, List.getElem_toArray, List.getElem_cons_zero, List.getElem_cons_succ, List.setIfInBounds_toArray, List.set_cons_zero, List.set_cons_succ])
      have HF6 := Lib.hid (HF5.out.below (below_drewN_ (Below.refl w5.heap.size w5) 1))
      have e6 : w5.drewN 1 = w5.drew := rfl
      rw [e6] at HF6
      clear HF5 Hk7 e6
      generalize w5.drew = w6 at *
      have q0 : w6.cell? ⟨g4, 0, none⟩ = some (.int .i64 0) := HF6.out.res.cell 0
      have p0 : w6.frozen? ⟨g4, 0, none⟩ = false := HF6.out.res.frozen 0
      have q1 : w6.cell? ⟨g4, 1, none⟩ = some (.slice none 0 0) := HF6.out.res.cell 1
      have p1 : w6.frozen? ⟨g4, 1, none⟩ = false := HF6.out.res.frozen 1
      have q2 : w6.cell? ⟨g4, 2, none⟩ = some (.int .i64 0) := HF6.out.res.cell 2
      have p2 : w6.frozen? ⟨g4, 2, none⟩ = false := HF6.out.res.frozen 2
      have q3 : w6.cell? ⟨g4, 3, none⟩ = some (.int .i64 0) := HF6.out.res.cell 3
      have p3 : w6.frozen? ⟨g4, 3, none⟩ = false := HF6.out.res.frozen 3
      have q4 : w6.cell? ⟨g4, 4, none⟩ = some (.int .i64 0) := HF6.out.res.cell 4
      have p4 : w6.frozen? ⟨g4, 4, none⟩ = false := HF6.out.res.frozen 4
      have q5 : w6.cell? ⟨g4, 5, none⟩ = some (.slice none 0 0) := HF6.out.res.cell 5
      have p5 : w6.frozen? ⟨g4, 5, none⟩ = false := HF6.out.res.frozen 5
      have q6 : w6.cell? ⟨g4, 6, none⟩ = some (.bool false) := HF6.out.res.cell 6
      have p6 : w6.frozen? ⟨g4, 6, none⟩ = false := HF6.out.res.frozen 6
      refine wpAnyT_one (i := 9) (by kernel_rfl) rfl (fun K hK => ?_); go_simp
      refine hK.out _ _ (fun h => absurd rfl h) (wpAnyT_done (by kernel_rfl) ?_ _)
      clear hK K
      go_wp2
      obtain ⟨hw, hA, hK⟩ := HF6.out.fin (.int .i64 0) (.slice none 0 0) (.int .i64 0) (.int .i64 L.now) (.int .i64 (L.id + 1)) (.slice none 0 0) (.bool false)
      unfold set7 at hw hA hK
      refine bodyPost_ret (results_cell_row rfl _ _ g4 43 #[.int .i64 0, .slice none 0 0, .int .i64 0, .int .i64 L.now, .int .i64 (L.id + 1), .slice none 0 0, .bool false] (0, 0) _ rfl hw Tryz.underlying43 rfl (by kernel_rfl)) rfl ?_
      exact .inr ⟨HT.out, bb, (by omega), rfl, hA, hK⟩
end St
end Go.Proofs.YtlljpjehalodfaaGreat
