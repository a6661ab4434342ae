/- A store copied (chapter 14): the walk. -/
import Derived.Test.YtlljpjehalodfaaProg
import Derived.Test.YtlljpjehalodfaaSaV
namespace Go.Proofs.Ytlljpjehalodfaa
open Go.RowKit
namespace St

/-- An upload without the place of its parts. -/
def Up.bare (u : Up) : ByteArray × Int × List (Int × Pt) := (u.key, u.born, u.parts)
def bares (l : List (Int × Up)) : List (Int × (ByteArray × Int × List (Int × Pt))) := l.map fun p => (p.1, p.2.bare)
def has (l : List (Int × Up)) (x : Int) : Bool := (mget l x).isSome
theorem has_mem {l : List (Int × Up)} {x : Int} {u : Up} (h : (x, u) ∈ l) : has l x = true := by
  unfold has
  cases hm : mget l x with
  | none => exact absurd rfl (mget_none.1 hm _ h)
  | some v => rfl
theorem has_mdel (l : List (Int × Up)) (x y : Int) : has (mdel l x) y = (has l y && !decide (y = x)) := by
  unfold has
  rw [mget_mdel]
  by_cases e : y = x
  · rw [if_pos e]; simp [e]
  · rw [if_neg e]; simp [e]
/-- The copies of those uploads that have come. -/
structure Cop (w0 wr : World) (bu lo : Nat) (U todo M : List (Int × Up)) : Prop where
  mu : MapAt kI evU wr bu M
  um : ∀ p ∈ M, MapAt kI evP wr p.2.b p.2.parts
  hi : ∀ p ∈ M, lo < p.2.b
  one : ∀ p ∈ M, ∀ q ∈ M, p.2.b = q.2.b → p.1 = q.1
  eq : bares M = (bares U).filter fun p => !has todo p.1
theorem Cop.len {w0 wr : World} {bu lo : Nat} {U todo M : List (Int × Up)} (h : Cop w0 wr bu lo U todo M) : M.length ≤ U.length := by
  have h1 := congrArg List.length h.eq
  have h2 := List.length_filter_le (fun p : Int × (ByteArray × Int × List (Int × Pt)) => !has todo p.1) (bares U)
  unfold bares at h1 h2
  rw [List.length_map] at h1 h2
  omega
theorem Cop.put {w0 wr wx : World} {bu lo : Nat} {U todo M : List (Int × Up)} {x : Int} {u : Up} {b : Nat} (h : Cop w0 wr bu lo U todo M) (hs : U.Pairwise fun p q => p.1 < q.1) (hx : (x, u) ∈ todo) (hU : (x, u) ∈ U) (hb : ∀ p ∈ M, p.2.b < b) (hlo : lo < b) (hbl : bu ≤ lo)
    (hm : MapAt kI evU wx bu (mput kI.lt M x ⟨u.key, u.born, b, u.parts⟩)) (hp : MapAt kI evP wx b u.parts) (hk : Keep (fun i => i = bu) wr wx) : Cop w0 wx bu lo U (mdel todo x) (mput kI.lt M x ⟨u.key, u.born, b, u.parts⟩) := by
  have hne : ∀ p ∈ M, p.2.b ≠ bu := fun p hp e => by have := h.hi p hp; omega
  refine ⟨hm, fun p hp' => ?_, fun p hp' => ?_, fun p hp' q hq' e => ?_, ?_⟩
  · rcases mput_mem.1 hp' with rfl | ⟨hp', _⟩
    · exact hp
    · exact hk.map (h.um p hp') (hne p hp')
  · rcases mput_mem.1 hp' with rfl | ⟨hp', _⟩
    · exact hlo
    · exact h.hi p hp'
  · rcases mput_mem.1 hp' with rfl | ⟨hp', _⟩ <;> rcases mput_mem.1 hq' with rfl | ⟨hq', _⟩
    · rfl
    · have := hb q hq'; dsimp only at e; omega
    · have := hb p hp'; dsimp only at e; omega
    · exact h.one p hp' q hq' e
  · have e1 : bares (mput kI.lt M x ⟨u.key, u.born, b, u.parts⟩) = mput kI.lt (bares M) x (u.key, u.born, u.parts) := (mput_map Up.bare kI.lt M x ⟨u.key, u.born, b, u.parts⟩).symm
    have e2 : kI.lt = ltI := rfl
    rw [e1, h.eq, e2]
    have hsb : (bares U).Pairwise fun p q => p.1 < q.1 := by unfold bares; rw [List.pairwise_map]; exact hs
    have hmb : (x, (u.key, u.born, u.parts)) ∈ bares U := List.mem_map.2 ⟨_, hU, rfl⟩
    have hq : (fun y => !has todo y) x = false := by show (!has todo x) = false; rw [has_mem hx]; rfl
    refine (mput_filter (q := fun y => !has todo y) hsb hmb hq).trans ?_
    refine List.filter_congr fun p _ => ?_
    rw [has_mdel]
    cases has todo p.1 <;> simp
theorem Cop.below {w0 wr wx : World} {bu lo : Nat} {U todo M : List (Int × Up)} (h : Cop w0 wr bu lo U todo M) (hb : Below wr.heap.size wr wx) : Cop w0 wx bu lo U todo M :=
  { h with mu := h.mu.below hb h.mu.lt_, um := fun p hp => (h.um p hp).below hb (h.um p hp).lt_ }
theorem Cop.start (w0 wr : World) (bu lo : Nat) {U : List (Int × Up)} (h : MapAt kI evU wr bu []) : Cop w0 wr bu lo U U [] := by
  refine ⟨h, fun p hp => (by cases hp), fun p hp => (by cases hp), fun p hp => (by cases hp), ?_⟩
  symm
  refine List.filter_eq_nil_iff.2 fun p hp => ?_
  obtain ⟨q, hq, rfl⟩ := List.mem_map.1 hp
  rw [has_mem (u := q.2) hq]; decide
theorem bare_pure {U M : List (Int × Up)} (h : bares M = bares U) : (M.map fun p => (p.1, p.2.pure)) = U.map fun p => (p.1, p.2.pure) := by
  have e : ∀ l : List (Int × Up), (l.map fun p => (p.1, p.2.pure)) = (bares l).map fun p => (p.1, (⟨p.2.1, p.2.2.1, p.2.2.2.map fun q => (q.1, q.2.d)⟩ : PU)) := fun l => by
    unfold bares
    rw [List.map_map]; rfl
  rw [e, e, h]
theorem Cop.done {w0 wr : World} {bu lo g0 bo : Nat} {L : LS} {M : List (Int × Up)} (h : Cop w0 wr bu lo L.ups [] M) (hA : At w0 L) (hb : Below w0.heap.size w0 wr) (hg0 : w0.heap.size ≤ g0) (h1 : g0 < bo) (h2 : bo < bu) (h3 : bu ≤ lo)
    (hm : MapAt kS evO wr bo L.objs) (hk : Blk wr g0 61 #[.map (some bo), .map (some bu), .int .i64 L.ver, .int .i64 L.id, .int .i64 L.now, .int .i64 L.all]) :
    ∃ C : LS, C.gs = g0 ∧ At wr C ∧ C.pure = L.pure ∧ ∀ i, C.foot i → w0.heap.size ≤ i := by
  have heq : bares M = bares L.ups := by
    rw [h.eq]
    exact List.filter_eq_self.2 fun p _ => rfl
  have hmem : ∀ p ∈ M, ∃ q ∈ L.ups, q.1 = p.1 ∧ q.2.bare = p.2.bare := fun p hp => by
    have : (p.1, p.2.bare) ∈ bares L.ups := by rw [← heq]; exact List.mem_map.2 ⟨p, hp, rfl⟩
    obtain ⟨q, hq, e⟩ := List.mem_map.1 this
    injection e with e1 e2
    exact ⟨q, hq, e1, e2⟩
  have hdat : ∀ {A : Option Addr} {c : Nat} {d : Bs}, Dat w0 L.gs A c d → Dat wr g0 A c d := fun {A c d} hd => by
    refine ⟨hd.len, fun hl => ?_⟩
    obtain ⟨b, off, e, hne, hc⟩ := hd.at_ hl
    have h0 := hc 0 (byteV d[0]) (by simp [List.getElem?_eq_getElem hl])
    have hlt : b < w0.heap.size := (cell_lt h0).1
    exact ⟨b, off, e, by omega, fun j u hu => (hb.cell (p := ⟨b, off + j, none⟩) hlt).trans (hc j u hu)⟩
  refine ⟨⟨g0, bo, bu, L.objs, M, L.ver, L.id, L.now, L.all⟩, rfl, ⟨hk, hm, h.mu, fun p hp => hdat (hA.od p hp), h.um, fun p hp q hq => ?_, Nat.ne_of_lt h2, fun p hp => ?_, h.one, fun p hp => ?_⟩, ?_, ?_⟩
  · obtain ⟨r, hr, -, e⟩ := hmem p hp
    have e3 : r.2.parts = p.2.parts := by unfold Up.bare at e; injection e with _ e; injection e
    exact hdat (hA.ud r hr q (by rw [e3]; exact hq))
  · have := h.hi p hp
    dsimp only
    omega
  · obtain ⟨r, hr, -, e⟩ := hmem p hp
    have e3 : r.2.key = p.2.key := by unfold Up.bare at e; injection e
    rw [← e3]; exact hA.uk r hr
  · show PS.mk _ _ _ _ _ _ = PS.mk _ _ _ _ _ _
    congr 1
    exact bare_pure heq
  · rintro i (e | e | e | ⟨p, hp, e⟩)
    · show w0.heap.size ≤ i; rw [e]; exact hg0
    · show w0.heap.size ≤ i; rw [e]; show _ ≤ bo; omega
    · show w0.heap.size ≤ i; rw [e]; show _ ≤ bu; omega
    · have := h.hi p hp; rw [e]; omega
set_option maxRecDepth 100000 in
set_option maxHeartbeats 3200000 in
theorem copy_calls (w : World) {L : LS} (h : At w L) (hn : L.ups.length ≤ 1000000) :
    Calls Try.prog 21 #[.pointer (some ⟨L.gs, 0, none⟩)] w fun e w' => ∃ C : LS, e = .returned (.pointer (some ⟨C.gs, 0, none⟩)) ∧ At w' C ∧ C.pure = L.pure ∧ (∀ i, C.foot i → w.heap.size ≤ i) ∧ Below w.heap.size w w' := by
  have HA := Lib.hid h
  have HU := Lib.hid Try.underlying59
  have hlt := h.blk.lt
  have hbl := h.mo.lt_
  have hul := h.mu.lt_
  have c0 := h.blk.cell 0
  have c1 := h.blk.cell 1
  have c2 := h.blk.cell 2
  have c3 := h.blk.cell 3
  have c4 := h.blk.cell 4
  have c5 := h.blk.cell 5
  clear h
  have x0 : w.cell? ⟨L.gs, 0, none⟩ = some (.map (some L.bo)) := c0
  have x1 : w.cell? ⟨L.gs, 1, none⟩ = some (.map (some L.bu)) := c1
  have x2 : w.cell? ⟨L.gs, 2, none⟩ = some (.int .i64 L.ver) := c2
  have x3 : w.cell? ⟨L.gs, 3, none⟩ = some (.int .i64 L.id) := c3
  have x4 : w.cell? ⟨L.gs, 4, none⟩ = some (.int .i64 L.now) := c4
  have x5 : w.cell? ⟨L.gs, 5, none⟩ = some (.int .i64 L.all) := c5
  clear c0 c1 c2 c3 c4 c5
  go_enter Try.func21, Try.ntmps21
  go_upto_region 4 with fail
  have HB1 := Lib.hid (Blk.new w 61 #[.map (some L.bo), .map (some L.bu), .int .i64 L.ver, .int .i64 L.id, .int .i64 L.now, .int .i64 L.all])
  have hb1 : Below w.heap.size w (w.alloc (.cells #[.map (some L.bo), .map (some L.bu), .int .i64 L.ver, .int .i64 L.id, .int .i64 L.now, .int .i64 L.all] 61)) := (Below.refl _ _).alloc (Nat.le_refl _) _
  have HW1 := Lib.hid hb1
  have HA1 := Lib.hid (HA.out.below hb1)
  clear hb1 x0 x1 x2 x3 x4 x5
  generalize w.alloc (.cells #[.map (some L.bo), .map (some L.bu), .int .i64 L.ver, .int .i64 L.id, .int .i64 L.now, .int .i64 L.all] 61) = w1 at *
  generalize hg0 : w.heap.size = g0 at *
  have x0 : w1.cell? ⟨L.gs, 0, none⟩ = some (.map (some L.bo)) := HA1.out.c_bo
  have HC := Lib.hid (cloneO_calls w1 HA1.out.mo)
  go_wp2_with fail
  refine HC.out.mono ?_
  rintro e w2 ⟨rfl, hm2, hb2, hs2⟩
  have hs1 : g0 ≤ w1.heap.size := by have := HW1.out.size; omega
  have hmm := @run_makeMap Try.prog
  have hg1 : g0 < w1.heap.size := HB1.out.lt
  have HB2 := Lib.hid (HB1.out.below hb2 hg1)
  have HM2 := Lib.hid hm2
  have HW2 := Lib.hid (HW1.out.trans (hb2.mono hs1))
  have hbs2 : w1.heap.size < w2.heap.size := hs2
  clear hm2 hb2 hs2 HC x0 HA1 HB1 HW1
  generalize w1.heap.size = bo at *
  have q0 : w2.cell? ⟨g0, 0, none⟩ = some (.map (some L.bo)) := HB2.out.cell 0
  have p0 : w2.frozen? ⟨g0, 0, none⟩ = false := HB2.out.frozen 0
  go_upto_region 5 with fail
  have HB3 := Lib.hid (HB2.out.set_ 0 (.map (some bo)))
  have HM3 := Lib.hid (HM2.out.setCell (a := ⟨g0, 0, none⟩) (by show bo ≠ g0; omega) (.map (some bo)))
  have HW3 := Lib.hid (HW2.out.setCell (p := ⟨g0, 0, none⟩) (Nat.le_refl _) (.map (some bo)))
  have hbs3 : bo < (w2.setCell ⟨g0, 0, none⟩ (.map (some bo))).heap.size := by simpa using hbs2
  clear HB2 HM2 HW2 q0 p0
  generalize w2.setCell ⟨g0, 0, none⟩ (.map (some bo)) = w3 at *
  have q1 : (w3.alloc (.map #[] 0)).cell? ⟨g0, 1, none⟩ = some (.map (some L.bu)) := (HB3.out.alloc _).cell 1
  have p1 : (w3.alloc (.map #[] 0)).frozen? ⟨g0, 1, none⟩ = false := (HB3.out.alloc _).frozen 1
  go_upto_region 6 with fail
  have hgb : g0 < w3.heap.size := HB3.out.lt
  have HB4 := Lib.hid ((HB3.out.alloc (.map #[] 0)).set_ 1 (.map (some w3.heap.size)))
  have HM4 := Lib.hid ((HM3.out.alloc (.map #[] 0)).setCell (a := ⟨g0, 1, none⟩) (by show bo ≠ g0; omega) (.map (some w3.heap.size)))
  have HN4 := Lib.hid ((MapAt.new kI evU w3).setCell (a := ⟨g0, 1, none⟩) (by show w3.heap.size ≠ g0; omega) (.map (some w3.heap.size)))
  have HW4 := Lib.hid ((HW3.out.alloc (by omega) (.map #[] 0)).setCell (p := ⟨g0, 1, none⟩) (Nat.le_refl _) (.map (some w3.heap.size)))
  have hbs4 : w3.heap.size < ((w3.alloc (.map #[] 0)).setCell ⟨g0, 1, none⟩ (.map (some w3.heap.size))).heap.size := by simp
  clear HB3 HM3 HW3 q1 p1 hmm
  generalize (w3.alloc (.map #[] 0)).setCell ⟨g0, 1, none⟩ (.map (some w3.heap.size)) = w4 at *
  generalize w3.heap.size = bu at *
  have HA4 := Lib.hid (HA.out.below (hg0 ▸ HW4.out))
  have x1 : w4.cell? ⟨L.gs, 1, none⟩ = some (.map (some L.bu)) := HA4.out.c_bu
  go_wp2_with (at_range; go_must (refine wpList_range _ rfl _ rfl HA4.out.mu HU.out rfl ?_))
  intro w5 hr5 hg5 hs5
  have hb5 : Below w4.heap.size w4 w5 := (Below.refl _ _).grown hg5 (Nat.le_refl _) (by intro g hg; cases hg)
  have HR5 := Lib.hid hr5
  have HB5 := Lib.hid (HB4.out.below hb5 HB4.out.lt)
  have HM5 := Lib.hid (HM4.out.below hb5 HM4.out.lt_)
  have HC5 := Lib.hid (Cop.start w w5 bu w4.heap.size (U := L.ups) (HN4.out.below hb5 HN4.out.lt_))
  have hs4 := HW4.out.size
  have HW5 := Lib.hid (HW4.out.trans (hb5.mono (by omega)))
  have hri : w4.heap.size < w5.heap.size := by omega
  clear hr5 hg5 hs5 hb5 HB4 HM4 HN4 HW4 HA4 x1
  generalize w4.heap.size = ri at *
  go_wp2
  go_loopw [4] (fun _ wr => ∃ todo M : List (Int × Up), Hid (RangeAt kI evU wr L.bu ri L.ups todo) ∧ Hid (Cop w wr bu ri L.ups todo M) ∧ Hid (Blk wr g0 61 #[.map (some bo), .map (some bu), .int .i64 L.ver, .int .i64 L.id, .int .i64 L.now, .int .i64 L.all]) ∧ Hid (MapAt kS evO wr bo L.objs) ∧ Hid (Below g0 w wr) ∧ Hid (ri < wr.heap.size)) (fun _ wr => wr.rangeLeft L.bu ri)
  case atStart => exact ⟨L.ups, [], HR5, HC5, HB5, HM5, HW5, Lib.hid hri⟩
  case round =>
    obtain ⟨todo, M, HR, HC, HB, HM, HW, HRI⟩ := hrel
    obtain ⟨wi, rfl⟩ : ∃ wi : World, wi = wr := ⟨_, rfl⟩
    go_wp2_with (at_next; go_must (refine wpList_next wi rfl _ rfl HR.out rfl ?_ ?_))
    · rintro rfl
      go_wp2
      go_ret
      obtain ⟨C, hC, h1, h2, h3⟩ := HC.out.done HA.out (hg0 ▸ HW.out) (by omega) (by omega) (by omega) (by omega) HM.out HB.out
      exact ⟨C, by rw [hC]; rfl, h1, h2, fun i hi => hg0 ▸ h3 i hi, hg0 ▸ HW.out⟩
    · intro x y w6 hxy hr6 hlt6 hg6 hs6 hent
      have hev : evU y = .agg #[.string y.key, .int .i64 y.born, .map (some y.b)] := rfl
      rw [hev] at hent
      rw [hev]
      have hxL : (x, y) ∈ L.ups := HR.out.sub.subset hxy
      have hgi : g0 ≤ wi.heap.size := by have := HW.out.size; omega
      have hRI := HRI.out
      have hkr : Keep (fun i => i = ri) wi w6 := Keep.of_grown hg6 (fun i e => by injection e with e)
      have HB6 := Lib.hid (hkr.blk HB.out (by omega))
      have HM6 := Lib.hid (hkr.map HM.out (by omega))
      have HC6 : Hid (Cop w w6 bu ri L.ups todo M) := Lib.hid { HC.out with mu := hkr.map HC.out.mu (by omega), um := fun p hp => hkr.map (HC.out.um p hp) (by have := HC.out.hi p hp; omega) }
      have HW6 := Lib.hid (HW.out.trans (hkr.below hgi (fun i e => by omega)))
      have HR6 := Lib.hid hr6
      have HXY := Lib.hid hxy
      have HXL := Lib.hid hxL
      have HLT := Lib.hid hlt6
      have hri6 : ri < w6.heap.size := by omega
      have hgw6 : g0 ≤ w6.heap.size := by omega
      have HRL : Hid (w6.rangeLeft L.bu ri < wi.rangeLeft L.bu ri) := Lib.hid (by rw [HR.out.left_eq, hr6.left_eq]; exact hlt6)
      clear hr6 hg6 hxy hxL hkr HB HM HC HW HR hlt6 hs6 HRI hRI hgi
      go_upto_region 9 with fail
      clear hent
      have hb7 : Below w6.heap.size w6 (w6.alloc (.cells #[.string y.key, .int .i64 y.born, .map (some y.b)] 67)) := (Below.refl _ _).alloc (Nat.le_refl _) _
      have HBU := Lib.hid (Blk.new w6 67 #[.string y.key, .int .i64 y.born, .map (some y.b)])
      have HB7 := Lib.hid (HB6.out.below hb7 HB6.out.lt)
      have HM7 := Lib.hid (HM6.out.below hb7 HM6.out.lt_)
      have HC7 := Lib.hid (HC6.out.below hb7)
      have HW7 := Lib.hid (HW6.out.trans (hb7.mono hgw6))
      have HR7 := Lib.hid (HR6.out.below hb7 (by omega) hri6)
      have hs7 : w6.heap.size < (w6.alloc (.cells #[.string y.key, .int .i64 y.born, .map (some y.b)] 67)).heap.size := by simp
      have HRL7 : Hid ((w6.alloc (.cells #[.string y.key, .int .i64 y.born, .map (some y.b)] 67)).rangeLeft L.bu ri < wi.rangeLeft L.bu ri) := Lib.hid (by rw [HR7.out.left_eq, ← HR6.out.left_eq]; exact HRL.out)
      clear hb7 HB6 HM6 HC6 HW6 HR6 HRL
      generalize w6.alloc (.cells #[.string y.key, .int .i64 y.born, .map (some y.b)] 67) = w7 at *
      generalize w6.heap.size = gu at *
      have hg7 : g0 < w7.heap.size := HB7.out.lt
      have Hk7 : Hid (∀ W, Below w7.heap.size w7 W → W.cell? ⟨g0, 1, none⟩ = some (.map (some bu)) ∧ W.cell? ⟨gu, 0, none⟩ = some (.string y.key) ∧ W.cell? ⟨gu, 1, none⟩ = some (.int .i64 y.born) ∧ W.cell? ⟨gu, 2, none⟩ = some (.map (some y.b))) := Lib.hid fun W hW => ⟨(HB7.out.below hW hg7).cell 1, (HBU.out.below hW hs7).cell 0, (HBU.out.below hW hs7).cell 1, (HBU.out.below hW hs7).cell 2⟩
      refine wp_region_T 11 (fun W => W.cell? ⟨g0, 1, none⟩ = some (.map (some bu)) ∧ W.cell? ⟨gu, 0, none⟩ = some (.string y.key) ∧ W.cell? ⟨gu, 1, none⟩ = some (.int .i64 y.born) ∧ W.cell? ⟨gu, 2, none⟩ = some (.map (some y.b))) (by kernel_rfl) (Hk7.out _ (below_drewN_ (Below.refl _ _) 1)) (fun hHeld => ?_)
      refine wpAnyT_take (i := 0) (oi := _) (v := ?_) rfl (by kernel_rfl) (fun _ _ _ h => h) (Or.inl ⟨by kernel_rfl, ?_⟩) (by assumption) ?_; rotate_left; (focus (intro w hSw; (try dsimp only at hSw); go_simp; (try with_reducible rfl))); (try simp only [Act.put, List.getElem_toArray, List.getElem_cons_zero, List.setIfInBounds_toArray, List.set_cons_zero, List.set_cons_succ])
      refine wpAnyT_take (i := 1) (oi := _) (v := ?_) rfl (by kernel_rfl) (fun _ _ _ h => h) (Or.inl ⟨by kernel_rfl, ?_⟩) (by assumption) ?_; rotate_left; (focus (intro w hSw; (try dsimp only at hSw); go_simp; (try with_reducible rfl))); (try simp only [Act.put, List.getElem_toArray, List.getElem_cons_zero, List.getElem_cons_succ, List.setIfInBounds_toArray, List.set_cons_zero, List.set_cons_succ])
      refine wpAnyT_take (i := 2) (oi := _) (v := ?_) rfl (by kernel_rfl) (fun _ _ _ h => h) (Or.inl ⟨by kernel_rfl, ?_⟩) (by assumption) ?_; rotate_left; (focus (intro w hSw; (try dsimp only at hSw); go_simp; (try with_reducible rfl))); (try simp only [Act.put, List.getElem_toArray, List.getElem_cons_zero, List.getElem_cons_succ, List.setIfInBounds_toArray, List.set_cons_zero, List.set_cons_succ])
      refine wpAnyT_take (i := 3) (oi := _) (v := ?_) rfl (by kernel_rfl) (fun _ _ _ h => h) (Or.inl ⟨by kernel_rfl, ?_⟩) (by assumption) ?_; rotate_left; (focus (intro w hSw; (try dsimp only at hSw); go_simp; (try with_reducible rfl))); (try simp only [Act.put, List.getElem_toArray, List.getElem_cons_zero, List.getElem_cons_succ, List.setIfInBounds_toArray, List.set_cons_zero, List.set_cons_succ])
      refine wpAnyT_take (i := 4) (oi := _) (v := ?_) rfl (by kernel_rfl) (fun _ _ _ h => h) (Or.inl ⟨by kernel_rfl, ?_⟩) (by assumption) ?_; rotate_left; (focus (intro w hSw; (try dsimp only at hSw); go_simp; (try with_reducible rfl))); (try simp only [Act.put, List.getElem_toArray, List.getElem_cons_zero, List.getElem_cons_succ, List.setIfInBounds_toArray, List.set_cons_zero, List.set_cons_succ])
      refine wpAnyT_take (i := 5) (oi := _) (v := ?_) rfl (by kernel_rfl) (fun _ _ _ h => h) (Or.inl ⟨by kernel_rfl, ?_⟩) (by assumption) ?_; rotate_left; (focus (intro w hSw; (try dsimp only at hSw); go_simp; (try with_reducible rfl))); (try simp only [Act.put, List.getElem_toArray, List.getElem_cons_zero, List.getElem_cons_succ, List.setIfInBounds_toArray, List.set_cons_zero, List.set_cons_succ])
      refine wpAnyT_take (i := 6) (oi := _) (v := ?_) rfl (by kernel_rfl) (fun _ _ _ h => h) (Or.inl ⟨by kernel_rfl, ?_⟩) (by assumption) ?_; rotate_left; (focus (intro w hSw; (try dsimp only at hSw); go_simp; (try with_reducible rfl))); (try simp only [Act.put, List.getElem_toArray, List.getElem_cons_zero, List.getElem_cons_succ, List.setIfInBounds_toArray, List.set_cons_zero, List.set_cons_succ])
      refine wpAnyT_take (i := 7) (oi := _) (v := ?_) rfl (by kernel_rfl) (fun _ _ _ h => h) (Or.inl ⟨by kernel_rfl, ?_⟩) (by assumption) ?_; rotate_left; (focus (intro w hSw; (try dsimp only at hSw); go_simp; (try with_reducible rfl))); (try simp only [Act.put, List.getElem_toArray, List.getElem_cons_zero, List.getElem_cons_succ, List.setIfInBounds_toArray, List.set_cons_zero, List.set_cons_succ])
      refine wpAnyT_take (i := 8) (oi := _) (v := ?_) rfl (by kernel_rfl) (fun _ _ _ h => h) (Or.inl ⟨by kernel_rfl, ?_⟩) (by assumption) ?_; rotate_left; (focus (intro w hSw; (try dsimp only at hSw); go_simp; (try with_reducible rfl))); (try simp only [Act.put, List.getElem_toArray, List.getElem_cons_zero, List.getElem_cons_succ, List.setIfInBounds_toArray, List.set_cons_zero, List.set_cons_succ])
      refine wpAnyT_one (i := 9) (by kernel_rfl) rfl (fun K hK => ?_); go_simp
      have hmp : MapAt kI evP (w7.drewN 1) y.b y.parts := ((HA.out.um _ HXL.out).below (B := g0) (hg0 ▸ HW7.out) (by have h : y.b < w.heap.size := (HA.out.um _ HXL.out).lt_; show y.b < g0; omega)).drewN 1
      refine (cloneP_calls (w7.drewN 1) hmp).mono ?_
      rintro e w8 ⟨rfl, hm8, hb8', hs8⟩
      have hb8 : Below w7.heap.size w7 w8 := (below_drewN_ (Below.refl _ _) 1).trans hb8'
      have hH8 := Hk7.out _ hb8
      have HB8 := Lib.hid (HB7.out.below hb8 hg7)
      have HM8 := Lib.hid (HM7.out.below hb8 HM7.out.lt_)
      have HC8 := Lib.hid (HC7.out.below hb8)
      have HW8 := Lib.hid (HW7.out.trans (hb8.mono (by omega)))
      have HR8 := Lib.hid (HR7.out.below hb8 (by omega) (by omega))
      have HLB : Hid (∀ p ∈ M, p.2.b < w7.heap.size) := Lib.hid fun p hp => (HC7.out.um p hp).lt_
      have HP8 : Hid (MapAt kI evP w8 w7.heap.size y.parts) := Lib.hid hm8
      have hs8' : w7.heap.size < w8.heap.size := hs8
      refine hK.out _ _ (fun _ => hH8) ?_
      clear hK K hHeld hb8 hb8' hm8 hmp hs8 HB7 HM7 HC7 HW7
      (try simp only [Act.put, List.getElem_toArray, List.getElem_cons_zero, List.getElem_cons_succ, List.setIfInBounds_toArray, List.set_cons_zero, List.set_cons_succ])
      refine wpAnyT_take (i := 10) (oi := _) (v := ?_) rfl (by kernel_rfl) (fun _ _ _ h => h) (Or.inl ⟨by kernel_rfl, ?_⟩) (by assumption) ?_; rotate_left; (focus (intro w hSw; (try dsimp only at hSw); go_simp; (try with_reducible rfl))); (try simp only [Act.put, List.getElem_toArray, List.getElem_cons_zero, List.getElem_cons_succ, List.setIfInBounds_toArray, List.set_cons_zero, List.set_cons_succ])
      have hidx : (kI).ok x := (HA.out.mu).ok _ HXL.out
      have hMl := HC8.out.len
      refine wpAnyT_put _ _ _ (by kernel_rfl) rfl (by kernel_rfl) rfl HC8.out.mu HU.out x (⟨y.key, y.born, w7.heap.size, y.parts⟩ : Up) rfl rfl rfl hidx (by unfold maxLen; omega) (by kernel_rfl) ?_
      intro w9 hm9 hg9 hs9
      have hk9 : Keep (fun i => i = bu) w8 w9 := Keep.of_grown hg9 (fun i e => by injection e with e)
      have HB9 := Lib.hid (hk9.blk HB8.out (by omega))
      have HM9 := Lib.hid (hk9.map HM8.out (by omega))
      have hg08 : g0 ≤ w8.heap.size := by omega
      have HC9 := Lib.hid (HC8.out.put (x := x) (u := y) (b := w7.heap.size) (by have := HA.out.mu.srt; exact this.imp fun h => by simpa [intT] using h) HXY.out HXL.out HLB.out (by omega) (by omega) hm9 (hk9.map HP8.out (by omega)) hk9)
      have HW9 := Lib.hid (HW8.out.trans (hk9.below hg08 (fun i e => by omega)))
      have HR9 := Lib.hid (HR8.out.kept hg9 (by simp; omega) (by simp; omega))
      have HRI9 : Hid (ri < w9.heap.size) := Lib.hid (by omega)
      have HRL9 : Hid (w9.rangeLeft L.bu ri < wi.rangeLeft L.bu ri) := Lib.hid (by rw [HR9.out.left_eq, ← HR7.out.left_eq]; exact HRL7.out)
      clear hH8 hm9 hg9 hs9 hk9 HB8 HM8 HC8 HW8 HR8 HP8 HR7 HRL7 HLB Hk7 hidx hMl
      simp only [Exit.then, Act.put, List.getElem_toArray, List.getElem_cons_zero, List.getElem_cons_succ]
      go_wp2
      go_roundw
      case rel => exact ⟨_, _, HR9, HC9, HB9, HM9, HW9, HRI9⟩
      case measure => exact HRL9.out
end St
end Go.Proofs.Ytlljpjehalodfaa
