/- A part of an upload (chapter 14). -/
import Derived.Test.YtlljpjehalodfaaGreatProg
import Derived.Test.YtlljpjehalodfaaGreatStR
namespace Go.Proofs.YtlljpjehalodfaaGreat
open Go.RowKit
namespace St

section
variable {κ β γ : Type} [DecidableEq κ] {lt : κ → κ → Bool}
theorem mins_self (hirr : ∀ x y, lt x y = true → lt y x = true → False) : ∀ {l : List (κ × β)} {k : κ} {v : β}, (l.Pairwise fun p q => lt p.1 q.1 = true) → mget l k = some v → mins lt (k, v) (mdel l k) = l
  | [], _, _, _, h => by cases h
  | a :: r, k, v, hs, h => by
    have hs' := List.pairwise_cons.1 hs
    rw [mget_cons] at h
    by_cases e : a.1 = k
    · rw [if_pos e] at h
      injection h with h
      have hnone : mget r k = none := mget_none.2 fun p hp e' => hirr _ _ (hs'.1 p hp) (by rw [e', ← e]; have := hs'.1 p hp; rw [e', ← e] at this; exact this)
      have e1 : mdel (a :: r) k = r := by
        have : mdel (a :: r) k = mdel r k := by unfold mdel; rw [List.filter_cons_of_neg (by simp [e])]
        rw [this, mdel_none hnone]
      rw [e1, ← e, ← h]
      cases r with
      | nil => rfl
      | cons q r' =>
        unfold mins
        rw [if_pos (hs'.1 q List.mem_cons_self)]
    · rw [if_neg e] at h
      have e1 : mdel (a :: r) k = a :: mdel r k := by unfold mdel; rw [List.filter_cons_of_pos (by simp [e])]
      rw [e1]
      have hlt : lt a.1 k = true := hs'.1 (k, v) (mget_mem h)
      unfold mins
      rw [if_neg (fun hh => hirr _ _ hlt hh), mins_self hirr hs'.2 h]
theorem mput_self (hirr : ∀ x y, lt x y = true → lt y x = true → False) {l : List (κ × β)} {k : κ} {v : β} (hs : l.Pairwise fun p q => lt p.1 q.1 = true) (h : mget l k = some v) : mput lt l k v = l := mins_self hirr hs h
end
section
variable {P : Program} {k : TypeId} {κ β : Type} [DecidableEq κ] {K : KeyT P k κ} {ev : β → Value} {w : World} {b : Nat} {l l' : List (κ × β)}
omit [DecidableEq κ] in
theorem map_same (h : MapAt K ev w b l) (e : (l'.map fun p => (p.1, ev p.2)) = l.map fun p => (p.1, ev p.2)) : MapAt K ev w b l' := by
  have e1 : ∀ m : List (κ × β), m.map (encE K ev) = (m.map fun p => (p.1, ev p.2)).map (encE K id) := fun m => by rw [List.map_map]; rfl
  have e2 : l'.map (encE K ev) = l.map (encE K ev) := by rw [e1, e1, e]
  have e3 : l'.length = l.length := by have := congrArg List.length e; simpa using this
  refine ⟨?_, fun p hp => ?_⟩
  · have := h.own
    rw [← e2, ← e3] at this
    exact this
  · have : (p.1, ev p.2) ∈ l.map fun p => (p.1, ev p.2) := by rw [← e]; exact List.mem_map.2 ⟨p, hp, rfl⟩
    obtain ⟨q, hq, e4⟩ := List.mem_map.1 this
    injection e4 with e4 _
    rw [← e4]; exact h.ok q hq
/-- Another thing that looks the same. -/
theorem map_swap (h : MapAt K ev w b l) {x : κ} {u v : β} (hu : mget l x = some u) (e : ev v = ev u) : MapAt K ev w b (mput K.lt l x v) := by
  have hirr : ∀ x y, K.lt x y = true → K.lt y x = true → False := fun x y h1 h2 => by
    have := ltK_trans h1 h2
    exact ltK_ne this rfl
  refine map_same h ?_
  rw [← mput_map, e]
  refine mput_self hirr ?_ (by rw [mget_map, hu]; rfl)
  rw [List.pairwise_map]
  exact h.srt
end
noncomputable def LS.parted (L : LS) (id : Int) (u : Up) (n : Int) (m : Int) (p : Pt) : LS := { L with all := L.all + m, ups := mput kI.lt L.ups id { u with parts := mput kI.lt u.parts n p } }
/-- The parts of one upload turn. -/
theorem At.partTo {w w' : World} {L : LS} (h : At w L) {id : Int} {u : Up} (hu : mget L.ups id = some u) (hg : w.grownBy w' (some u.b)) {parts : List (Int × Pt)} (hm : MapAt kI evP w' u.b parts) (hd : ∀ q ∈ parts, Dat w' L.gs q.2.A q.2.c q.2.d) : At w' { L with ups := mput kI.lt L.ups id { u with parts := parts } } := by
  have hmem := mget_mem hu
  have hk : Keep L.foot w w' := Keep.of_grown hg fun i e => by injection e with e; exact .inr (.inr (.inr ⟨_, hmem, e⟩))
  have hub := h.ub _ hmem
  have old : ∀ {p : Int × Up}, p ∈ L.ups → p.1 ≠ id → p.2.b ≠ u.b := fun hp hne e => hne (h.one _ hp _ hmem e)
  refine ⟨h.blk.grown hg (fun e => by injection e with e; exact h.gs_b hmem e), h.mo.kept hg (fun e => by injection e with e; exact hub.1 e.symm), map_swap (h.mu.kept hg (fun e => by injection e with e; exact hub.2 e.symm)) hu rfl, fun p hp => h.dat (h.od p hp) hk, fun p hp => ?_, fun p hp => ?_, h.ne, fun p hp => ?_, fun p hp q hq => ?_, fun p hp => ?_⟩
  · rcases mput_mem.1 hp with rfl | ⟨hp, hne⟩
    · exact hm
    · exact (h.um p hp).kept hg (fun e => by injection e with e; exact old hp hne e)
  · rcases mput_mem.1 hp with rfl | ⟨hp, hne⟩
    · exact hd
    · exact fun q hq => h.dat (h.ud p hp q hq) hk
  · rcases mput_mem.1 hp with rfl | ⟨hp, hne⟩
    · exact hub
    · exact h.ub p hp
  · rcases mput_mem.1 hp with rfl | ⟨hp, hne⟩
    · rcases mput_mem.1 hq with rfl | ⟨hq, hne'⟩
      · intro _; rfl
      · intro e; exact absurd e.symm (old hq hne')
    · rcases mput_mem.1 hq with rfl | ⟨hq, hne'⟩
      · intro e; exact absurd e (old hp hne)
      · exact h.one p hp q hq
  · rcases mput_mem.1 hp with rfl | ⟨hp, hne⟩
    · exact h.uk (id, u) hmem
    · exact h.uk p hp
theorem pure_parted (L : LS) (id : Int) (u : Up) (n m : Int) (p : Pt) : (L.parted id u n m p).pure = { L.pure with all := L.pure.all + m, ups := mput ltI L.pure.ups id { u.pure with parts := mput ltI u.pure.parts n p.d } } := by
  unfold LS.parted
  show PS.mk _ _ _ _ _ _ = PS.mk _ _ _ _ _ _
  congr 1
  have e1 : ({ u with parts := mput kI.lt u.parts n p } : Up).pure = { u.pure with parts := mput ltI u.pure.parts n p.d } := by
    show PU.mk _ _ _ = PU.mk _ _ _
    congr 1
    exact (mput_map (fun p : Pt => p.d) ltI u.parts n p).symm
  rw [← e1]
  exact (mput_map Up.pure ltI L.ups id _).symm
theorem Fr.back {w w0 wX : World} {F : Nat → Prop} {L : LS} {x : Cl} {g3 g4 : Nat} (h : Fr w0 wX F L x g3 g4) (hb : Below w.heap.size w w0) (hg : L.gs < w.heap.size) : Fr w wX F L x g3 g4 :=
  ⟨h.at_, h.res, h.call, (Keep.of_below hb).trans h.keep, h.free, hg, Nat.le_trans hb.size h.h3, Nat.le_trans hb.size h.h4, h.dat⟩
def pt0 : Pt := ⟨none, 0, []⟩
theorem elimP (l : List (Int × Pt)) (k : Int) : (mget l k).elim zP evP = evP ((mget l k).getD pt0) := by cases mget l k <;> rfl
theorem Tryz.infoU8s : (Tryz.prog.info? 5).map (fun i => (i.zero, i.size, i.bytes)) = some (some (.int .u8 0), 1, 1) := by kernel_rfl
def Up.val (u : Up) : Value := .agg #[.string u.key, .int .i64 u.born, .map (some u.b)]
def moreI (u : Up) (x : Cl) : Int := (x.d.length : Int) - (((mget u.parts x.n).getD pt0).d.length : Int)
def PartTo (w w' : World) (L : LS) (u : Up) (x : Cl) (mi : Int) : Prop := ∃ A c, High w.heap.size A ∧ At w' (L.parted x.id u x.n mi ⟨A, c, x.d⟩)
theorem PartTo.mk_ {w w' : World} {L : LS} {u : Up} {x : Cl} {mi : Int} {A : Option Addr} {c : Nat} (h : High w.heap.size A) (hA : At w' (L.parted x.id u x.n mi ⟨A, c, x.d⟩)) : PartTo w w' L u x mi := ⟨A, c, h, hA⟩
def RetPart (w : World) (L : LS) (u : Up) (x : Cl) (e : Ending) (w' : World) : Prop :=
  (L.pure.partE u.pure x.pure ≠ 0 ∧ RetE w L (L.pure.partE u.pure x.pure) e w') ∨ (L.pure.partE u.pure x.pure = 0 ∧ e = .returned (errV 0) ∧ PartTo w w' L u x (moreI u x) ∧ Keep L.foot w w')
theorem pure_more (u : Up) (x : Cl) : PS.more u.pure x.pure = moreI u x := by
  unfold PS.more moreI
  show (_ - (((mget (u.parts.map fun q => (q.1, q.2.d)) x.n).getD []).length : Int)) = _
  rw [mget_map (fun p : Pt => p.d)]
  cases mget u.parts x.n <;> rfl
set_option maxRecDepth 100000 in
set_option maxHeartbeats 16000000 in
theorem part_calls (w : World) {L : LS} {n : Nat} {x : Cl} {u : Up} (h : At w L) (hi : Inv L n) (hn : n ≤ 1000000) (hd : Dat w L.gs x.A x.c x.d) (hu : mget L.ups x.id = some u) (hdl : x.d.length ≤ 140737488355328) (hnn : (kI).ok x.n) :
    Calls Tryz.prog 20 #[.pointer (some ⟨L.gs, 0, none⟩), u.val, x.val] w (RetPart w L u x) := by
  have hmem := mget_mem hu
  have hb0 : Below w.heap.size w (w.alloc (.cells #[.string u.key, .int .i64 u.born, .map (some u.b)] 57)) := (Below.refl _ _).alloc (Nat.le_refl _) _
  have HF := Lib.hid ((Fr.start L.foot (h.below hb0) (hd.below hb0)).back hb0 h.blk.lt)
  have HB0 := Lib.hid (((Blk.new w 57 #[.string u.key, .int .i64 u.born, .map (some u.b)]).alloc (.cells x.cells 34)).alloc (.cells rep0 43))
  have hz : (w.alloc (.cells #[.string u.key, .int .i64 u.born, .map (some u.b)] 57)).heap.size = w.heap.size + 1 := by simp
  rw [hz] at HF
  have HI := Lib.hid hi
  have HU := Lib.hid Tryz.underlying55
  have HOK := Lib.hid hnn
  have HUU := Lib.hid hu
  have HE := Lib.hid (elimP u.parts x.n)
  have hgs := h.blk.lt
  have HPE : Hid (L.pure.partE u.pure x.pure = if x.n < 1 ∨ 32 < x.n then 1 else if 262144 < x.d.length then 5 else if 4194304 < L.all + moreI u x then 9 else 0) := Lib.hid (by
    unfold PS.partE
    rw [pure_more]; rfl)
  have hp9 : ((mget u.parts x.n).getD pt0).d.length ≤ 262144 := by
    cases hm : mget u.parts x.n with
    | none => exact Nat.zero_le _
    | some p => exact hi.pd _ hmem _ (mget_mem hm)
  have hpl := hi.pn _ hmem
  have HMI : Hid (moreI u x = (x.d.length : Int) - (((mget u.parts x.n).getD pt0).d.length : Int)) := Lib.hid rfl
  unfold RetPart
  generalize L.pure.partE u.pure x.pure = PE at *
  generalize moreI u x = mi at *
  generalize (mget u.parts x.n).getD pt0 = pp at *
  obtain ⟨kind, key, A, c, d, ver, at_, nn, id⟩ := x
  dsimp only [Cl.val, Cl.cells, Up.val] at *
  have hall := hi.all
  have hbig := hi.big
  clear h hd hi hb0 hz hu hnn
  go_enter Tryz.func20, Tryz.ntmps20
  go_upto_region 1 with fail
  unfold rep0 at HF HB0
  generalize ((w.alloc (.cells #[.string u.key, .int .i64 u.born, .map (some u.b)] 57)).alloc (.cells #[.int .i64 kind, .string key, .slice A d.length c, .int .i64 ver, .int .i64 at_, .int .i64 nn, .int .i64 id] 34)).alloc (.cells #[.int .i64 0, .slice none 0 0, .int .i64 0, .int .i64 0, .int .i64 0, .slice none 0 0, .bool false] 43) = w1 at *
  generalize hg4 : w.heap.size + 1 + 1 = g4 at *
  generalize hg3 : w.heap.size + 1 = g3 at *
  generalize hg0 : w.heap.size = g0 at *
  have k2 : w1.cell? ⟨g3, 2, none⟩ = some (.slice A d.length c) := HF.out.call.cell 2
  have k5 : w1.cell? ⟨g3, 5, none⟩ = some (.int .i64 nn) := HF.out.call.cell 5
  have u2 : w1.cell? ⟨g0, 2, none⟩ = some (.map (some u.b)) := HB0.out.cell 2
  have s5 : w1.cell? ⟨L.gs, 5, none⟩ = some (.int .i64 L.all) := HF.out.at_.c_all
  have f5 := HF.out.at_.blk.frozen 5
  have hev : (mget u.parts nn).elim zP evP = .slice pp.A pp.d.length pp.c := HE.out
  have hlk : (Instr.lookup 55 (.map (some u.b)) (.int .i64 nn) false).run Tryz.prog w1 = .ok (.slice pp.A pp.d.length pp.c) w1 := (HF.out.at_.um _ hmem).get_at HU.out (zeroP _) HOK.out hev
  have HF1 := HF
  have q0 : w1.cell? ⟨g4, 0, none⟩ = some (.int .i64 0) := HF1.out.res.cell 0
  have p0 : w1.frozen? ⟨g4, 0, none⟩ = false := HF1.out.res.frozen 0
  have q1 : w1.cell? ⟨g4, 1, none⟩ = some (.slice none 0 0) := HF1.out.res.cell 1
  have p1 : w1.frozen? ⟨g4, 1, none⟩ = false := HF1.out.res.frozen 1
  have q2 : w1.cell? ⟨g4, 2, none⟩ = some (.int .i64 0) := HF1.out.res.cell 2
  have p2 : w1.frozen? ⟨g4, 2, none⟩ = false := HF1.out.res.frozen 2
  have q3 : w1.cell? ⟨g4, 3, none⟩ = some (.int .i64 0) := HF1.out.res.cell 3
  have p3 : w1.frozen? ⟨g4, 3, none⟩ = false := HF1.out.res.frozen 3
  have q4 : w1.cell? ⟨g4, 4, none⟩ = some (.int .i64 0) := HF1.out.res.cell 4
  have p4 : w1.frozen? ⟨g4, 4, none⟩ = false := HF1.out.res.frozen 4
  have q5 : w1.cell? ⟨g4, 5, none⟩ = some (.slice none 0 0) := HF1.out.res.cell 5
  have p5 : w1.frozen? ⟨g4, 5, none⟩ = false := HF1.out.res.frozen 5
  have q6 : w1.cell? ⟨g4, 6, none⟩ = some (.bool false) := HF1.out.res.cell 6
  have p6 : w1.frozen? ⟨g4, 6, none⟩ = false := HF1.out.res.frozen 6
  have r1 : IntKind.i64.wrap ((d.length : Int) - (pp.d.length : Int)) = mi := by rw [HMI.out, IntKind.wrap_i64]; omega
  have r2 : IntKind.i64.wrap (L.all + mi) = L.all + mi := by have := HMI.out; rw [IntKind.wrap_i64]; omega
  clear hev hall hbig HF
  by_cases h1 : nn < 1
  · have d1 := dct h1
    have HT : Hid (PE = 1) := Lib.hid (by rw [HPE.out, if_pos (.inl h1)])
    go_wp2
    obtain ⟨hw, hA, hK⟩ := HF1.out.fin (.int .i64 1) (.slice none 0 0) (.int .i64 0) (.int .i64 0) (.int .i64 0) (.slice none 0 0) (.bool false)
    unfold set7 at hw hA hK
    refine bodyPost_ret (results_cell_row rfl _ _ g4 43 #[.int .i64 1, .slice none 0 0, .int .i64 0, .int .i64 0, .int .i64 0, .slice none 0 0, .bool false] (0, 0) _ rfl hw Tryz.underlying43 rfl (by kernel_rfl)) rfl ?_
    exact .inl ⟨by rw [HT.out]; decide, by rw [HT.out]; exact ⟨rfl, hA, hK⟩⟩
  · have d1 := dcf h1
    by_cases h2 : 32 < nn
    · have d2 := dct h2
      have HT : Hid (PE = 1) := Lib.hid (by rw [HPE.out, if_pos (.inr h2)])
      go_wp2
      obtain ⟨hw, hA, hK⟩ := HF1.out.fin (.int .i64 1) (.slice none 0 0) (.int .i64 0) (.int .i64 0) (.int .i64 0) (.slice none 0 0) (.bool false)
      unfold set7 at hw hA hK
      refine bodyPost_ret (results_cell_row rfl _ _ g4 43 #[.int .i64 1, .slice none 0 0, .int .i64 0, .int .i64 0, .int .i64 0, .slice none 0 0, .bool false] (0, 0) _ rfl hw Tryz.underlying43 rfl (by kernel_rfl)) rfl ?_
      exact .inl ⟨by rw [HT.out]; decide, by rw [HT.out]; exact ⟨rfl, hA, hK⟩⟩
    · have d2 := dcf h2
      by_cases h3 : 262144 < d.length
      · have d3 : decide ((262144 : Int) < (d.length : Int)) = true := dct (by omega)
        have HT : Hid (PE = 5) := Lib.hid (by rw [HPE.out, if_neg (by rintro (h | h) <;> contradiction), if_pos h3])
        go_wp2
        obtain ⟨hw, hA, hK⟩ := HF1.out.fin (.int .i64 5) (.slice none 0 0) (.int .i64 0) (.int .i64 0) (.int .i64 0) (.slice none 0 0) (.bool false)
        unfold set7 at hw hA hK
        refine bodyPost_ret (results_cell_row rfl _ _ g4 43 #[.int .i64 5, .slice none 0 0, .int .i64 0, .int .i64 0, .int .i64 0, .slice none 0 0, .bool false] (0, 0) _ rfl hw Tryz.underlying43 rfl (by kernel_rfl)) rfl ?_
        exact .inl ⟨by rw [HT.out]; decide, by rw [HT.out]; exact ⟨rfl, hA, hK⟩⟩
      · have d3 : decide ((262144 : Int) < (d.length : Int)) = false := dcf (by omega)
        by_cases h4 : 4194304 < L.all + mi
        · have d4 := dct h4
          have HT : Hid (PE = 9) := Lib.hid (by rw [HPE.out, if_neg (by rintro (h | h) <;> contradiction), if_neg h3, if_pos h4])
          go_wp2
          obtain ⟨hw, hA, hK⟩ := HF1.out.fin (.int .i64 9) (.slice none 0 0) (.int .i64 0) (.int .i64 0) (.int .i64 0) (.slice none 0 0) (.bool false)
          unfold set7 at hw hA hK
          refine bodyPost_ret (results_cell_row rfl _ _ g4 43 #[.int .i64 9, .slice none 0 0, .int .i64 0, .int .i64 0, .int .i64 0, .slice none 0 0, .bool false] (0, 0) _ rfl hw Tryz.underlying43 rfl (by kernel_rfl)) rfl ?_
          exact .inl ⟨by rw [HT.out]; decide, by rw [HT.out]; exact ⟨rfl, hA, hK⟩⟩
        · have d4 := dcf h4
          have HT : Hid (PE = 0) := Lib.hid (by rw [HPE.out, if_neg (by rintro (h | h) <;> contradiction), if_neg h3, if_neg h4])
          go_upto_region 9 with fail
          have hk2 : Keep L.foot w1 (w1.setCell ⟨L.gs, 5, none⟩ (.int .i64 (L.all + mi))) := (Keep.refl _ _).setCell (.inl (.inl rfl)) _
          have hgne : g0 ≠ L.gs := by omega
          have HF2 := Lib.hid (HF1.out.turn (L' := { L with all := L.all + mi }) (HF1.out.at_.set rfl rfl rfl rfl rfl rfl) hk2 (fun _ _ h => h) rfl ⟨HF1.out.free.o, HF1.out.free.u⟩)
          have HB2 := Lib.hid (HB0.out.far (p := ⟨L.gs, 5, none⟩) hgne (.int .i64 (L.all + mi)))
          clear hk2 HF1 HB0 k2 k5 u2 s5 f5 hlk q0 q1 q2 q3 q4 q5 q6 p0 p1 p2 p3 p4 p5 p6
          generalize w1.setCell ⟨L.gs, 5, none⟩ (.int .i64 (L.all + mi)) = w2 at *
          have Hk9 : Hid (∀ W, Below w2.heap.size w2 W → W.cell? ⟨g0, 2, none⟩ = some (.map (some u.b)) ∧ W.cell? ⟨g3, 5, none⟩ = some (.int .i64 nn) ∧ W.cell? ⟨g3, 2, none⟩ = some (.slice A d.length c)) := Lib.hid fun W hW => ⟨(HB2.out.below hW HB2.out.lt).cell 2, (HF2.out.below hW).call.cell 5, (HF2.out.below hW).call.cell 2⟩
          refine wp_region_T 8 (fun w' => w'.cell? ⟨g0, 2, none⟩ = some (.map (some u.b)) ∧ w'.cell? ⟨g3, 5, none⟩ = some (.int .i64 nn) ∧ w'.cell? ⟨g3, 2, none⟩ = some (.slice A d.length c)) (by kernel_rfl) (Hk9.out _ (below_drewN_ (Below.refl _ _) 1)) (fun hHeld => ?_)
          refine wpAnyT_take (i := 0) (oi := _) (v := ?_) rfl (by kernel_rfl) (fun _ _ _ h => h) (Or.inl ⟨by kernel_rfl, ?_⟩) (by assumption) ?_; rotate_left; (focus (intro w hSw; (try dsimp only at hSw); go_simp; (try with_reducible rfl))); (try simp only [Act.put, List.getElem_toArray, List.getElem_cons_zero, List.setIfInBounds_toArray, List.set_cons_zero, List.set_cons_succ])
          refine wpAnyT_take (i := 1) (oi := _) (v := ?_) rfl (by kernel_rfl) (fun _ _ _ h => h) (Or.inl ⟨by kernel_rfl, ?_⟩) (by assumption) ?_; rotate_left; (focus (intro w hSw; (try dsimp only at hSw); go_simp; (try with_reducible rfl))); (try simp only [Act.put, List.getElem_toArray, List.getElem_cons_zero, List.getElem_cons_succ, List.setIfInBounds_toArray, List.set_cons_zero, List.set_cons_succ])
          refine wpAnyT_take (i := 2) (oi := _) (v := ?_) rfl (by kernel_rfl) (fun _ _ _ h => h) (Or.inl ⟨by kernel_rfl, ?_⟩) (by assumption) ?_; rotate_left; (focus (intro w hSw; (try dsimp only at hSw); go_simp; (try with_reducible rfl))); (try simp only [Act.put, List.getElem_toArray, List.getElem_cons_zero, List.getElem_cons_succ, List.setIfInBounds_toArray, List.set_cons_zero, List.set_cons_succ])
          refine wpAnyT_take (i := 3) (oi := _) (v := ?_) rfl (by kernel_rfl) (fun _ _ _ h => h) (Or.inl ⟨by kernel_rfl, ?_⟩) (by assumption) ?_; rotate_left; (focus (intro w hSw; (try dsimp only at hSw); go_simp; (try with_reducible rfl))); (try simp only [Act.put, List.getElem_toArray, List.getElem_cons_zero, List.getElem_cons_succ, List.setIfInBounds_toArray, List.set_cons_zero, List.set_cons_succ])
          refine wpAnyT_take (i := 5) (oi := _) (v := ?_) rfl (by kernel_rfl) (fun _ _ _ h => h) (Or.inl ⟨by kernel_rfl, ?_⟩) (by assumption) ?_; rotate_left; (focus (intro w hSw; (try dsimp only at hSw); go_simp; (try with_reducible rfl))); (try simp only [Act.put, List.getElem_toArray, List.getElem_cons_zero, List.getElem_cons_succ, List.setIfInBounds_toArray, List.set_cons_zero, List.set_cons_succ])
          refine wpAnyT_take (i := 6) (oi := _) (v := ?_) rfl (by kernel_rfl) (fun _ _ _ h => h) (Or.inl ⟨by kernel_rfl, ?_⟩) (by assumption) ?_; rotate_left; (focus (intro w hSw; (try dsimp only at hSw); go_simp; (try with_reducible rfl))); (try simp only [Act.put, List.getElem_toArray, List.getElem_cons_zero, List.getElem_cons_succ, List.setIfInBounds_toArray, List.set_cons_zero, List.set_cons_succ])
          refine wpAnyT_one (i := 4) (by kernel_rfl) rfl (fun K hK => ?_); go_simp
          have hb3 : Below w2.heap.size w2 (w2.drew.alloc (.cells #[] 5)) := (below_drewN_ (Below.refl _ _) 1).alloc (Nat.le_refl _) _
          have hH3 := Hk9.out _ hb3
          refine hK.out _ _ (fun _ => hH3) ?_
          clear hK K hHeld
          have HF3 := Lib.hid (HF2.out.below hb3)
          have HY3 := Lib.hid HF3.out.dat.bytes
          have HM3 : Hid ((w2.drew.alloc (.cells #[] 5)).ownsRow w2.drew.heap.size 5 1 (.slice (some ⟨w2.drew.heap.size, 0, none⟩) 0 0) 0 []) := Lib.hid (World.ownsRow_made w2.drew #[] 0 (Nat.le_refl _) (Nat.zero_le _) rfl)
          (try simp only [Act.put, List.getElem_toArray, List.getElem_cons_zero, List.getElem_cons_succ, List.setIfInBounds_toArray, List.set_cons_zero, List.set_cons_succ])
          refine wpAnyT_one (i := 7) (by kernel_rfl) rfl (fun K hK => ?_)
          refine step_append_sl _ rfl (.tmp 55) (.tmp 57) _ rfl w2.drew.heap.size 5 _ 1 1 Tryz.underlying32 Tryz.infoU8s rfl (by omega) _ _ _ rfl HM3.out _ A d.length c (d.map byteV) rfl HY3.out.2 (byteV_one d) (by unfold maxLen; omega) (by omega) (by simp) ?_
          intro A4 c4 w4 hc1 hc2 hrd4 hbel4 hown4 _ _
          have hb4 : Below w2.heap.size w2 w4 := hb3.trans hbel4
          have hH4 := Hk9.out _ hb4
          have HF4 := Lib.hid (HF2.out.below hb4)
          have e0 : 0 + d.length = d.length := Nat.zero_add _
          rw [e0, List.nil_append] at hown4
          have HHI : Hid (High w.heap.size A4) := Lib.hid (High.own hown4 HF2.out.keep.size)
          have HD4 : Hid (Dat w4 L.gs A4 c4 d) := Lib.hid (Dat.of_own hown4 HF2.out.at_.blk.lt)
          have HO4 : Hid (Off g4 A4 d) := Lib.hid (Dat.offg (Dat.of_own hown4 HF2.out.res.lt))
          refine hK.out _ _ (fun _ => hH4) ?_
          rw [e0]
          clear hK K Hk9 HF2 HB2 HF3 HY3 HM3 hb3 hb4 hrd4 hbel4 hown4 e0 hH3 hc1 hc2
          (try simp only [Act.put, List.getElem_toArray, List.getElem_cons_zero, List.getElem_cons_succ, List.setIfInBounds_toArray, List.set_cons_zero, List.set_cons_succ])
          refine wpAnyT_put _ _ _ (by kernel_rfl) rfl (by kernel_rfl) rfl (HF4.out.at_.um _ hmem) HU.out nn (⟨A4, c4, d⟩ : Pt) rfl rfl rfl HOK.out (by unfold maxLen; dsimp only; omega) (by kernel_rfl) ?_
          intro w5 hm5 hg5 hs5
          have hk5 : Keep L.foot w4 w5 := Keep.of_grown hg5 fun i e => by injection e with e; exact .inr (.inr (.inr ⟨_, hmem, e⟩))
          have hA5 : At w5 (L.parted id u nn mi ⟨A4, c4, d⟩) := HF4.out.at_.partTo HUU.out hg5 hm5 (fun q hq => by
            rcases mput_mem.1 hq with rfl | ⟨hq, _⟩
            · exact HF4.out.at_.dat HD4.out hk5
            · exact HF4.out.at_.dat (HF4.out.at_.ud _ hmem q hq) hk5)
          have HF5 := Lib.hid (HF4.out.turn hA5 hk5 (fun _ _ h => h) rfl (by
            refine ⟨HF4.out.free.o, fun p hp => ?_⟩
            rcases mput_mem.1 hp with rfl | ⟨hp, _⟩
            · intro q hq
              rcases mput_mem.1 hq with rfl | ⟨hq, _⟩
              · exact HO4.out
              · exact HF4.out.free.u _ hmem q hq
            · exact HF4.out.free.u p hp))
          clear hm5 hg5 hs5 hk5 hA5 HF4 HD4 HO4 hH4
          have q0 : w5.cell? ⟨g4, 0, none⟩ = some (.int .i64 0) := HF5.out.res.cell 0
          have p0 : w5.frozen? ⟨g4, 0, none⟩ = false := HF5.out.res.frozen 0
          have q1 : w5.cell? ⟨g4, 1, none⟩ = some (.slice none 0 0) := HF5.out.res.cell 1
          have p1 : w5.frozen? ⟨g4, 1, none⟩ = false := HF5.out.res.frozen 1
          have q2 : w5.cell? ⟨g4, 2, none⟩ = some (.int .i64 0) := HF5.out.res.cell 2
          have p2 : w5.frozen? ⟨g4, 2, none⟩ = false := HF5.out.res.frozen 2
          have q3 : w5.cell? ⟨g4, 3, none⟩ = some (.int .i64 0) := HF5.out.res.cell 3
          have p3 : w5.frozen? ⟨g4, 3, none⟩ = false := HF5.out.res.frozen 3
          have q4 : w5.cell? ⟨g4, 4, none⟩ = some (.int .i64 0) := HF5.out.res.cell 4
          have p4 : w5.frozen? ⟨g4, 4, none⟩ = false := HF5.out.res.frozen 4
          have q5 : w5.cell? ⟨g4, 5, none⟩ = some (.slice none 0 0) := HF5.out.res.cell 5
          have p5 : w5.frozen? ⟨g4, 5, none⟩ = false := HF5.out.res.frozen 5
          have q6 : w5.cell? ⟨g4, 6, none⟩ = some (.bool false) := HF5.out.res.cell 6
          have p6 : w5.frozen? ⟨g4, 6, none⟩ = false := HF5.out.res.frozen 6
          simp only [Exit.then, Act.put, List.getElem_toArray, List.getElem_cons_zero, List.getElem_cons_succ]
          go_wp2
          obtain ⟨hw, hA, hK⟩ := HF5.out.fin (.int .i64 0) (.slice none 0 0) (.int .i64 0) (.int .i64 0) (.int .i64 0) (.slice none 0 0) (.bool false)
          unfold set7 at hw hA hK
          refine bodyPost_ret (results_cell_row rfl _ _ g4 43 #[.int .i64 0, .slice none 0 0, .int .i64 0, .int .i64 0, .int .i64 0, .slice none 0 0, .bool false] (0, 0) _ rfl hw Tryz.underlying43 rfl (by kernel_rfl)) rfl ?_
          exact .inr ⟨HT.out, rfl, PartTo.mk_ (x := ⟨kind, key, A, c, d, ver, at_, nn, id⟩) HHI.out hA, hK⟩
end St
end Go.Proofs.YtlljpjehalodfaaGreat
