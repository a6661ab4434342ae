/- The heap of heads: Push. -/
import Derived.Test.YtophfgijfmdbcaaProg
import Derived.Test.YtophfgijfmdbcaaHrA
namespace Go.Proofs.Ytophfgijfmdbcaa.Hr
open Go.RowKit Go.Proofs.Ytophfgijfmdbcaa Go.Proofs.Ytophfgijfmdbcaa.So Go.Proofs.Ytophfgijfmdbcaa.Hp

/-- What stands behind the append. -/
structure Post (w : World) (B gh : Nat) (fv : Value) (c : Nat) (A : Option Addr) (n0 : Nat) (cs : List Value) (A2 : Option Addr) (cp : Nat) (W2 : World) : Prop where
  cap : n0 + 1 ≤ cp
  max : cp ≤ maxLen
  own : W2.ownsRow B encH.E encH.sz (.slice A2 (n0 + 1) cp) (n0 + 1) cs
  below : Below B w W2
  fr : Fr gh (ownB A) w W2
  blk : Blk W2 gh 100 #[.slice A n0 c, fv]
  old : ownB A2 = ownB A ∨ ∃ k, ownB A2 = some k ∧ w.heap.size ≤ k
/-- How far the appending is. -/
structure PhS (w w1 : World) (B gh : Nat) (fv : Value) (c : Nat) (A : Option Addr) (n0 : Nat) (x : Hd) (cs : List Value) (val : Nat → Value) (cc : Nat → Bool) (vs : Nat → Value) (W : World) : Prop where
  vals : ∀ i, cc i = true → i ≠ 7 → i ≠ 10 → vs i = val i
  pre : cc 7 = false → Below w1.heap.size w1 W ∧ (cc 6 = false → W.heap.size = w1.heap.size) ∧ (cc 6 = true → W.heap.size = w1.heap.size + 1 ∧ Reads W W.heap.size 10 (some ⟨w1.heap.size, 0, none⟩) 1 (cH x))
  o7 : cc 7 = true → cc 4 = true ∧ cc 5 = true ∧ cc 6 = true
  o6 : cc 6 = true → cc 5 = true
  o10 : cc 10 = true → cc 7 = true
  post : cc 7 = true → ∃ A2 cp W2, vs 7 = .slice A2 (n0 + 1) cp ∧ Post w B gh fv c A n0 cs A2 cp W2 ∧ W = if cc 10 = true then W2.setCell ⟨gh, 0, none⟩ (.slice A2 (n0 + 1) cp) else W2
theorem PhS.step {w w1 : World} {B gh : Nat} {fv : Value} {c : Nat} {A : Option Addr} {n0 : Nat} {x : Hd} {cs : List Value} {val : Nat → Value} {cc : Nat → Bool} {vs : Nat → Value} {W : World} (h : PhS w w1 B gh fv c A n0 x cs val cc vs W) (i : Nat) (h6 : i ≠ 6) (h7 : i ≠ 7) (h10 : i ≠ 10) :
    PhS w w1 B gh fv c A n0 x cs val (fun j => if j = i then true else cc j) (fun j => if j = i then val i else vs j) W := by
  refine ⟨fun j hj k7 k10 => ?_, fun hc => ?_, fun hc => ?_, fun hc => ?_, fun hc => ?_, fun hc => ?_⟩
  · by_cases e : j = i
    · subst e; simp
    · simp only [if_neg e] at hj ⊢; exact h.vals j hj k7 k10
  · simp only [if_neg (Ne.symm h7), if_neg (Ne.symm h6)] at hc ⊢; exact h.pre hc
  · simp only [if_neg (Ne.symm h7)] at hc
    obtain ⟨a, b, c⟩ := h.o7 hc
    exact ⟨by show (if 4 = i then true else cc 4) = true; split; rfl; exact a, by show (if 5 = i then true else cc 5) = true; split; rfl; exact b, by show (if 6 = i then true else cc 6) = true; split; rfl; exact c⟩
  · simp only [if_neg (Ne.symm h6)] at hc
    show (if 5 = i then true else cc 5) = true
    split; rfl; exact h.o6 hc
  · simp only [if_neg (Ne.symm h10), if_neg (Ne.symm h7)] at hc ⊢; exact h.o10 hc
  · simp only [if_neg (Ne.symm h7), if_neg (Ne.symm h10)] at hc ⊢; exact h.post hc
theorem Fr.grown_ {gh : Nat} {g : Option Nat} {w w1 w2 : World} (h : Fr gh g w w1) (hb : w1.grownBy w2 g) : Fr gh g w w2 :=
  ⟨hb.os.trans h.os, hb.tape.trans h.tape, hb.output.trans h.output, Nat.le_trans h.size hb.size, fun i hi h1 h2 => (hb.block i (Nat.lt_of_lt_of_le hi h.size) h2).trans (h.block i hi h1 h2)⟩
theorem run_stl (W : World) {gh : Nat} {u : Value} (h : W.cell? ⟨gh, 0, none⟩ = some u) (hf : W.frozen? ⟨gh, 0, none⟩ = false) {A : Option Addr} {n c : Nat} : (Instr.storeAt 98 (.pointer (some ⟨gh, 0, none⟩)) (.slice A n c)).run Try.prog W = .ok () (W.setCell ⟨gh, 0, none⟩ (.slice A n c)) := by
  simp [go_sem, h, hf]
theorem run_bh (W : World) (x : Hd) {o : Oper} {b : Act} (ho : o.op = .buildSlice 98 1 #[(0, .tmp 12)]) (h0 : b.eval (.tmp 12) = vH x) :
    (execOp b.eval o).run Try.prog W = .ok (.value (.slice (some ⟨W.heap.size, 0, none⟩) 1 1)) (W.alloc (.cells (cH x).toArray 86)) := by
  have e0 : b.tmps[12]?.getD undef = vH x := by simpa [Act.eval] using h0
  unfold execOp
  simp [go_sem, ho, e0, vH, cH]

set_option maxRecDepth 100000 in
set_option maxHeartbeats 6400000 in
theorem push_calls (K : World → Prop) (B gh gc c : Nat) (FR : Array Value) (lt : Hd → Hd → Bool) (hO : Swo lt) (hA : Asks K B gc FR lt) (w : World) (A : Option Addr) (dd : List Hd) (x : Hd) (hK : K w) (h : HI w B gh (.func (.func gc) #[] FR) A c dd) (hd : Heap lt dd) (hn : dd.length ≤ 1099511627776) :
    Calls Try.prog 51 #[.pointer (some ⟨gh, 0, none⟩), vH x] w fun e w' => e = .returned (.tuple #[]) ∧ HeapR B gh (.func (.func gc) #[] FR) lt (ownB A) w.heap.size (x :: dd) w' ∧ Below B w w' ∧ Fr gh (ownB A) w w' := by
  have y0 := h.blk.cell 0
  have f0 := h.blk.frozen 0
  simp only [List.getElem?_toArray, List.getElem?_cons_zero, List.getElem?_cons_succ] at y0
  have hlt := h.blk.lt
  have hlow := h.low
  have H0 := Lib.hid h
  have HD := Lib.hid hd
  obtain ⟨n0, hn0⟩ : ∃ n0, n0 = dd.length := ⟨_, rfl⟩
  rw [← hn0] at y0 hn
  have HN := Lib.hid hn0
  have hown : w.ownsRow B encH.E encH.sz (.slice A n0 c) n0 (dd.flatMap encH.cs) := by rw [hn0]; exact h.own
  have HOW := Lib.hid hown
  clear h hd hn0 hown
  unfold vH
  go_enter Try.func51, Try.ntmps51
  go_wp2_with fail
  have hb1 : Below w.heap.size w (w.alloc (.cells #[.int .i64 x.x.kind, .int .i64 x.x.time, .slice x.x.A x.x.labs.length x.x.cp, .string x.x.text, .int .i64 x.x.value, .bool x.x.null, .int .i64 x.x.maker, .int .i64 x.x.seq, .int .i64 x.x.place, .slice x.A x.rest.length x.cp] 86)) := (Below.refl _ _).alloc (Nat.le_refl _) _
  have hs1 : (w.alloc (.cells #[.int .i64 x.x.kind, .int .i64 x.x.time, .slice x.x.A x.x.labs.length x.x.cp, .string x.x.text, .int .i64 x.x.value, .bool x.x.null, .int .i64 x.x.maker, .int .i64 x.x.seq, .int .i64 x.x.place, .slice x.A x.rest.length x.cp] 86)).heap.size = w.heap.size + 1 := by simp
  have hbx : Blk (w.alloc (.cells #[.int .i64 x.x.kind, .int .i64 x.x.time, .slice x.x.A x.x.labs.length x.x.cp, .string x.x.text, .int .i64 x.x.value, .bool x.x.null, .int .i64 x.x.maker, .int .i64 x.x.seq, .int .i64 x.x.place, .slice x.A x.rest.length x.cp] 86)) w.heap.size 86 #[.int .i64 x.x.kind, .int .i64 x.x.time, .slice x.x.A x.x.labs.length x.x.cp, .string x.x.text, .int .i64 x.x.value, .bool x.x.null, .int .i64 x.x.maker, .int .i64 x.x.seq, .int .i64 x.x.place, .slice x.A x.rest.length x.cp] := Blk.new _ _ _
  have hown1 := HOW.out.alloc (.cells #[.int .i64 x.x.kind, .int .i64 x.x.time, .slice x.x.A x.x.labs.length x.x.cp, .string x.x.text, .int .i64 x.x.value, .bool x.x.null, .int .i64 x.x.maker, .int .i64 x.x.seq, .int .i64 x.x.place, .slice x.A x.rest.length x.cp] 86)
  generalize w.alloc (.cells #[.int .i64 x.x.kind, .int .i64 x.x.time, .slice x.x.A x.x.labs.length x.x.cp, .string x.x.text, .int .i64 x.x.value, .bool x.x.null, .int .i64 x.x.maker, .int .i64 x.x.seq, .int .i64 x.x.place, .slice x.A x.rest.length x.cp] 86) = w1 at *
  have hbk1 : Blk w1 gh 100 #[.slice A n0 c, .func (.func gc) #[] FR] := by
    have h1 := H0.out.blk
    rw [← HN.out] at h1
    exact h1.below hb1 hlt
  have hld := fun (W : World) (hW : Below w1.heap.size w1 W) => okH.ld W w.heap.size 0 x fun j v hv => by
    rw [Nat.zero_add, hW.cell (p := ⟨w.heap.size, j, none⟩) (by show w.heap.size < w1.heap.size; omega), hbx.cell j]
    simpa [encH, cH] using hv
  have hl0 := fun W (hW : Below w1.heap.size w1 W) => load_l W ((hW.cell (p := ⟨gh, 0, none⟩) (by show gh < w1.heap.size; omega)).trans ((hbk1.cell 0).trans rfl) : W.cell? ⟨gh, 0, none⟩ = some (.slice A n0 c))
  have hB0 : B ≤ w.heap.size := by omega
  have hgne0 : some gh ≠ (Value.slice A n0 c).ownBlock := fun e => by
    have h1 := H0.out.blk
    rcases HOW.out.2 with ⟨h2, _⟩ | ⟨g', cap', cur, h2, _, hg', _⟩
    · rw [h2] at e; cases e
    · rw [h2] at e
      have e : gh = g' := by injection e
      exact Blk.ne_ h1 hg' (by decide) e
  refine wp_region_steps (by kernel_rfl) (by kernel_rfl) (PhS w w1 B gh (.func (.func gc) #[] FR) c A n0 x (dd.flatMap encH.cs ++ cH x) (fun q_ => (#[.pointer (some ⟨gh, 0, none⟩), .pointer (some ⟨gh, 0, none⟩), .pointer (some ⟨gh, 0, none⟩), .pointer (some ⟨gh, 0, none⟩), .slice A n0 c, vH x, .slice (some ⟨w1.heap.size, 0, none⟩) 1 1, undef, .pointer (some ⟨gh, 0, none⟩), .pointer (some ⟨gh, 0, none⟩), undef] : Array Value).getD q_ undef)) ?_ ?_ [some 7, some 8, some 9, some 10, some 11, some 12, some 13, some 14, some 15, some 16, none] rfl ?_
  · exact ⟨fun i hi => (by cases hi), fun _ => ⟨below_drewN_ (Below.refl _ w1) 1, fun _ => rfl, fun h => (by cases h)⟩, fun h => (by cases h), fun h => (by cases h), fun h => (by cases h), fun h => (by cases h)⟩
  · intro i o ho cc vs W b hS hci hbd hev hout
    have hvl : ∀ j t, cc j = true → j ≠ 7 → j ≠ 10 → dstOf _ j = some t → b.eval (.tmp t) = _ := fun j t hj k7 k10 ht => (hev j t hj ht).trans (hS.vals j hj k7 k10)
    have hn7 : ∀ j, cc j = false → (j = 4 ∨ j = 5 ∨ j = 6) → cc 7 = false := fun j hj hd => by
      cases h7 : cc 7
      · rfl
      · obtain ⟨a1, a2, a3⟩ := hS.o7 h7
        rcases hd with rfl | rfl | rfl
        · rw [a1] at hj; cases hj
        · rw [a2] at hj; cases hj
        · rw [a3] at hj; cases hj
    rcases i with _ | _ | _ | _ | _ | _ | _ | _ | _ | _ | _ | i
    · cases ho
      exact wp_of_run _ (run_move W (.tmp 0) rfl ((hout 0 (by kernel_rfl)).trans rfl)) ⟨_, rfl, hS.step 0 (by decide) (by decide) (by decide)⟩
    · cases ho
      exact wp_of_run _ (run_move W (.tmp 0) rfl ((hout 0 (by kernel_rfl)).trans rfl)) ⟨_, rfl, hS.step 1 (by decide) (by decide) (by decide)⟩
    · cases ho
      exact wp_of_run _ (run_nil W (.tmp 8) rfl (hvl 1 8 (hbd 1 (by kernel_rfl)) (by decide) (by decide) rfl)) ⟨_, rfl, hS.step 2 (by decide) (by decide) (by decide)⟩
    · cases ho
      exact wp_of_run _ (run_fa W (.tmp 9) rfl (hvl 2 9 (hbd 2 (by kernel_rfl)) (by decide) (by decide) rfl) (field0 gh)) ⟨_, rfl, hS.step 3 (by decide) (by decide) (by decide)⟩
    · cases ho
      exact wp_of_run _ (run_load (.tmp 10) rfl (hvl 3 10 (hbd 3 (by kernel_rfl)) (by decide) (by decide) rfl) (hl0 W (hS.pre (hn7 4 hci (.inl rfl))).1)) ⟨_, rfl, hS.step 4 (by decide) (by decide) (by decide)⟩
    · cases ho
      exact wp_of_run _ (run_load (.tmp 3) rfl ((hout 3 (by kernel_rfl)).trans rfl) (hld W (hS.pre (hn7 5 hci (.inr (.inl rfl)))).1)) ⟨_, rfl, hS.step 5 (by decide) (by decide) (by decide)⟩
    · cases ho
      have h7 := hn7 6 hci (.inr (.inr rfl))
      obtain ⟨p1, p2, -⟩ := hS.pre h7
      have p2 := p2 hci
      refine wp_of_run _ (run_bh W x rfl (hvl 5 12 (hbd 5 (by kernel_rfl)) (by decide) (by decide) rfl)) ⟨_, rfl, ?_⟩
      refine ⟨fun j hj k7 k10 => ?_, fun hc => ⟨p1.alloc p1.size _, fun h => (by cases h), fun _ => ⟨by rw [World.size_alloc, p2], ?_⟩⟩, fun hc => ?_, fun _ => hbd 5 (by kernel_rfl), fun hc => ?_, fun hc => ?_⟩
      · by_cases e : j = 6
        · subst e; simp [p2]
        · simp only [if_neg e] at hj ⊢; exact hS.vals j hj k7 k10
      · have := Reads.made (size := 10) (n := 1) W (cH x).toArray 86 rfl
        rw [p2] at this
        rw [World.size_alloc, p2]
        exact this
      · have hc : cc 7 = true := hc
        rw [h7] at hc; cases hc
      · exact hS.o10 hc
      · have hc : cc 7 = true := hc
        rw [h7] at hc; cases hc
    · cases ho
      obtain ⟨p1, -, p3⟩ := hS.pre hci
      obtain ⟨p3, p4⟩ := p3 (hbd 6 (by kernel_rfl))
      have c10 : cc 10 = false := by
        cases h : cc 10
        · rfl
        · rw [hS.o10 h] at hci; cases hci
      refine wp_append_any W (.tmp 11) (.tmp 13) _ rfl B 86 _ 10 120 Try.underlying98 Try.infoHd rfl (by omega) (.slice A n0 c) n0 _ (hvl 4 11 (hbd 4 (by kernel_rfl)) (by decide) (by decide) rfl) (own_below hown1 p1) W.heap.size _ 1 1 (cH x) (hvl 6 13 (hbd 6 (by kernel_rfl)) (by decide) (by decide) rfl) p4 (okH.one x) (by unfold maxLen; omega) (by omega) (by have := p1.size; omega) ?_
      intro v' W' k1 k2 k3 k4
      obtain ⟨A2, cp, rfl, q1, q2, q3⟩ := own_slice k1
      refine ⟨_, rfl, fun j hj k7 k10 => ?_, fun hc => ?_, fun hc => ?_, hS.o6, fun hc => rfl, fun hc => ?_⟩
      · simp only [if_neg k7] at hj ⊢; exact hS.vals j hj k7 k10
      · cases hc
      · exact ⟨hbd 4 (by kernel_rfl), hS.o6 (hbd 6 (by kernel_rfl)), hbd 6 (by kernel_rfl)⟩
      · have hsz := p1.size
        refine ⟨A2, cp, W', rfl, ⟨q1, q2, k1, ((hb1.trans (p1.mono (by omega))).mono hB0).trans k2, ?_, (hbk1.below p1 (by omega)).grown k3 hgne0, ?_⟩, ?_⟩
        · refine Fr.grown_ ((Fr.refl gh (ownB A) w).below (hb1.trans (p1.mono (by omega)))) ?_
          rw [← ownB_eq A n0 c]; exact k3
        · rw [ownB_eq, ownB_eq] at k4
          rcases k4 with k4 | k4
          · exact .inl k4
          · exact .inr ⟨_, k4, by omega⟩
        · show W' = if cc 10 = true then _ else W'
          rw [c10]; rfl
    · cases ho
      exact wp_of_run _ (run_nil W (.tmp 7) rfl (hvl 0 7 (hbd 0 (by kernel_rfl)) (by decide) (by decide) rfl)) ⟨_, rfl, hS.step 8 (by decide) (by decide) (by decide)⟩
    · cases ho
      exact wp_of_run _ (run_fa W (.tmp 15) rfl (hvl 8 15 (hbd 8 (by kernel_rfl)) (by decide) (by decide) rfl) (field0 gh)) ⟨_, rfl, hS.step 9 (by decide) (by decide) (by decide)⟩
    · cases ho
      obtain ⟨A2, cp, W2, e2, hp, hW⟩ := hS.post (hbd 7 (by kernel_rfl))
      rw [hci] at hW
      obtain rfl : W = W2 := hW
      have hbk : Blk W gh 100 #[.slice A n0 c, .func (.func gc) #[] FR] := hp.blk
      have e14 : b.eval (.tmp 14) = .slice A2 (n0 + 1) cp := (hev 7 14 (hbd 7 (by kernel_rfl)) rfl).trans e2
      refine wp_of_skip (run_store (.tmp 16) (.tmp 14) rfl (hvl 9 16 (hbd 9 (by kernel_rfl)) (by decide) (by decide) rfl) e14 (run_stl W (hbk.cell 0) (hbk.frozen 0))) ⟨_, rfl, ?_⟩
      refine ⟨fun j hj k7 k10 => ?_, fun hc => ?_, hS.o7, hS.o6, fun _ => hbd 7 (by kernel_rfl), fun hc => ⟨A2, cp, W, e2, hp, rfl⟩⟩
      · simp only [if_neg k10] at hj ⊢; exact hS.vals j hj k7 k10
      · have hc : cc 7 = false := hc
        rw [hbd 7 (by kernel_rfl)] at hc; cases hc
    · cases ho
  · intro cc vs W hS hall
    have hall : ∀ j, j < 11 → cc j = true := hall
    have hv := fun j (hj : j < 11) h7 h10 => hS.vals j (hall j hj) h7 h10
    obtain ⟨A2, cp, w2, e2, hp, hW⟩ := hS.post (hall 7 (by decide))
    rw [hall 10 (by decide), if_pos rfl] at hW
    subst hW
    have e0 := hv 0 (by decide) (by decide) (by decide)
    have e1 := hv 1 (by decide) (by decide) (by decide)
    have e3 := hv 3 (by decide) (by decide) (by decide)
    have e4 := hv 2 (by decide) (by decide) (by decide)
    have e5 := hv 4 (by decide) (by decide) (by decide)
    have e6 := hv 5 (by decide) (by decide) (by decide)
    have e7 := hv 6 (by decide) (by decide) (by decide)
    have e8 := hv 8 (by decide) (by decide) (by decide)
    have e9 := hv 9 (by decide) (by decide) (by decide)
    simp only [putL, e0, e1, e2, e3, e4, e5, e6, e7, e8, e9, Exit.then, Act.put, List.setIfInBounds_toArray, List.set_cons_zero, List.set_cons_succ]
    clear hS hall hv e0 e1 e2 e3 e4 e5 e6 e7 e8 e9 hld hl0
    have hbk := hp.blk
    have hown2 := hp.own
    obtain ⟨g, rfl, hgB, hgl, _⟩ := own_at hown2 (by omega)
    have HOB : Hid (some g = ownB A ∨ w.heap.size ≤ g) := Lib.hid (by
      rcases hp.old with h1 | ⟨k, h1, h2⟩
      · exact .inl h1
      · right
        have h1 : some g = some k := h1
        injection h1 with h1
        omega)
    have hne : gh ≠ g := by
      rcases hown2.2 with ⟨h2, _⟩ | ⟨g', cap', cur, h2, _, hg', _⟩
      · cases h2
      · injection h2 with h2
        injection h2 with h2
        injection h2 with h2
        subst h2
        exact Blk.ne_ hbk hg' (by decide)
    have y2 := hbk.cell 0
    have f2 := hbk.frozen 0
    simp only [List.getElem?_toArray, List.getElem?_cons_zero, List.getElem?_cons_succ] at y2
    have HH : Hid (HI (w2.setCell ⟨gh, 0, none⟩ (.slice (some ⟨g, 0, none⟩) (n0 + 1) cp)) B gh (.func (.func gc) #[] FR) (some ⟨g, 0, none⟩) cp (dd ++ [x])) := Lib.hid (by
      have el : (dd ++ [x]).length = n0 + 1 := by rw [List.length_append, HN.out]; rfl
      refine ⟨?_, hlow, ?_⟩
      · rw [el]
        have := hbk.set_ 0 (.slice (some ⟨g, 0, none⟩) (n0 + 1) cp)
        simp only [List.setIfInBounds_toArray, List.set_cons_zero, List.set_cons_succ] at this
        exact this
      · rw [el, List.flatMap_append]
        have := own_not' hown2 ((Only.refl gh w2).setCell (p := ⟨gh, 0, none⟩) (.inl rfl) (.slice (some ⟨g, 0, none⟩) (n0 + 1) cp)) (by show some g ≠ some gh; simp; exact fun e => hne e.symm)
        exact this)
    have HB2 : Hid (Below B w (w2.setCell ⟨gh, 0, none⟩ (.slice (some ⟨g, 0, none⟩) (n0 + 1) cp))) := Lib.hid (hp.below.setCell hlow _)
    have HFR : Hid (Fr gh (ownB A) w (w2.setCell ⟨gh, 0, none⟩ (.slice (some ⟨g, 0, none⟩) (n0 + 1) cp))) := Lib.hid (hp.fr.only ((Only.refl gh w2).setCell (p := ⟨gh, 0, none⟩) (.inl rfl) _) (.inl rfl))
    have hs2 := hp.fr.size
    clear hown2 hbk hp
    go_wp2
    generalize hw3 : w2.setCell ⟨gh, 0, none⟩ (.slice (some ⟨g, 0, none⟩) (n0 + 1) cp) = w3 at *
    clear hw3 y2 f2
    have hl0 : HH.out.blk.lt = HH.out.blk.lt := rfl
    clear hl0
    have HUP : Hid (Up lt (dd ++ [x]) n0) := Lib.hid (by rw [HN.out]; exact Up.start HD.out x)
    have HPM : Hid ((dd ++ [x]).Perm (x :: dd)) := Lib.hid List.perm_append_comm
    have HEL : Hid ((dd ++ [x]).length = n0 + 1) := Lib.hid (by rw [List.length_append, HN.out]; rfl)
    have HK3 : Hid (K w3) := Lib.hid (hA.keep _ _ hK HB2.out)
    have HA := Lib.hid hA
    have HO := Lib.hid hO
    obtain ⟨n, hnn⟩ : ∃ n, n = n0 + 1 := ⟨_, rfl⟩
    have hn1 : 1 ≤ n := by omega
    have hn2 : n ≤ 1099511627777 := by omega
    have hn3 : n0 < n := by omega
    have hn4 : n ≤ n0 + 1 := by omega
    rw [← hnn] at HEL
    have HB3 := Lib.hid (⟨Below.refl B w3, HFR.out⟩ : _ ∧ _)
    generalize dd ++ [x] = d0 at *
    clear hnn hA hO hne hgl H0 HD HOW HN y0 f0
    go_loopw [4] (fun vi wx => ∃ (i : Nat) (d : List Hd), i < n ∧ n ≤ d.length ∧ d.length ≤ n ∧ vi = .int .i64 (i : Int) ∧ Hid (HI wx B gh (.func (.func gc) #[] FR) (some ⟨g, 0, none⟩) cp d) ∧ Hid (Up lt d i ∧ d.Perm d0) ∧ Hid (Below B w3 wx ∧ Fr gh (ownB A) w wx)) (fun vi _ => (intOf vi).toNat)
    case atStart => exact ⟨n0, d0, by omega, by rw [HEL.out]; exact Nat.le_refl _, by rw [HEL.out]; exact Nat.le_refl _, rfl, HH, Lib.hid ⟨HUP.out, List.Perm.refl _⟩, HB3⟩
    case round =>
      obtain ⟨i, d, hin, hd1, hd2, rfl, HH2, HU, HB⟩ := hrel
      have hed : d.length = n := by omega
      have HED := Lib.hid hed
      have HR : Hid (RowG encH wr B g cp d) := Lib.hid HH2.out.row
      have hblk := HH2.out.blk
      rw [hed] at hblk
      have HBK := Lib.hid hblk
      have hglt := hblk.lt
      have hglt2 := HR.out.lt.2
      have hgne : gh ≠ g := HH2.out.ne (by decide)
      clear hed hblk
      by_cases h0 : i = 0
      · have d0' : decide (0 < i) = false := dcf (by omega)
        have HF : Hid (∀ W, Below wr.heap.size wr W → HeapR B gh (.func (.func gc) #[] FR) lt (ownB A) w.heap.size (x :: dd) W) := Lib.hid fun W hW => ⟨_, _, d, HH2.out.below hW, HU.out.1.stop (.inl h0), HU.out.2.trans HPM.out, HOB.out.imp id fun h => ⟨g, rfl, h⟩⟩
        clear h0
        go_wp2_with fail
        go_quiet (fail)
        go_wp2
        go_end0
        exact ⟨rfl, HF.out _ (below_drewN_ (Below.refl _ _) _), below_drewN_ (HB2.out.trans HB.out.1) _, HB.out.2.below (below_drewN_ (Below.refl _ _) _)⟩
      · have p1 : (i - 1) / 2 < n := by omega
        have p0 : 0 < i := by omega
        clear h0
        have fa0 := field0 gh
        have fa1 := field1 gh
        have Hent : Hid (∀ args W, (callFunc gc args).run Try.prog W = .ok (.enter gc args) W) := Lib.hid HA.out.enter
        have Hask : Hid (∀ W, Below wr.heap.size wr W → Calls Try.prog gc (#[encH.vf (gt d i), encH.vf (gt d ((i - 1) / 2))] ++ FR) W fun e W' => e = .returned (.bool (lt (gt d i) (gt d ((i - 1) / 2)))) ∧ Below W.heap.size W W') := Lib.hid fun W hW => HA.out.call _ _ W (HA.out.keep _ _ (HA.out.keep _ _ HK3.out HB.out.1) (hW.mono (by omega)))
        have hl0 := fun W (hW : Below wr.heap.size wr W) => load_l W (((HBK.out.below hW hglt).cell 0).trans rfl : W.cell? ⟨gh, 0, none⟩ = some (.slice (some ⟨g, 0, none⟩) n cp))
        have hl1 := fun W (hW : Below wr.heap.size wr W) => load_f W (((HBK.out.below hW hglt).cell 1).trans rfl : W.cell? ⟨gh, 1, none⟩ = some (.func (.func gc) #[] FR))
        have hld_i := fun W (hW : Below wr.heap.size wr W) => okH.ld W g (i * encH.sz) (gt d i) fun j v hv => (HR.out.below hW).cell okH (by omega) hv
        have hld_p := fun W (hW : Below wr.heap.size wr W) => okH.ld W g ((i - 1) / 2 * encH.sz) (gt d ((i - 1) / 2)) fun j v hv => (HR.out.below hW).cell okH (by omega) hv
        go_wp2_with fail
        refine wp_ask (by kernel_rfl) (by kernel_rfl) (fun q_ => (#[.int .i64 ((i : Int)), .bool (true), .bool (true), .pointer (some ⟨gh, 0, none⟩), .pointer (some ⟨gh, 0, none⟩), .pointer (some ⟨gh, 1, none⟩), .func (.func gc) #[] FR, .pointer (some ⟨gh, 0, none⟩), .pointer (some ⟨gh, 0, none⟩), .pointer (some ⟨gh, 0, none⟩), .slice (some ⟨g, 0, none⟩) n cp, .int .i64 ((i : Int)), .pointer (some ⟨g, (i) * encH.sz, none⟩), encH.vf (gt d (i)), .pointer (some ⟨gh, 0, none⟩), .pointer (some ⟨gh, 0, none⟩), .pointer (some ⟨gh, 0, none⟩), .slice (some ⟨g, 0, none⟩) n cp, .int .i64 ((i : Int)), .int .i64 ((i : Int) - 1), .int .i64 (((i : Int) - 1) / 2), .pointer (some ⟨g, ((i - 1) / 2) * encH.sz, none⟩), encH.vf (gt d ((i - 1) / 2)), .bool (lt (gt d (i)) (gt d ((i - 1) / 2))), .bool (lt (gt d (i)) (gt d ((i - 1) / 2)))] : Array Value).getD q_ undef) 23 _ _ (fun q_ o ho b hvl => wanted_of (gk := 2) (want := true) (by kernel_rfl) ho (fun hw0 => hvl 2 25 hw0 rfl) rfl rfl) ?_ Hask.out ?_ [(some 23, .int .i64 ((i : Int))), (some 24, .bool (true)), (some 25, .bool (true)), (some 26, .pointer (some ⟨gh, 0, none⟩)), (some 27, .pointer (some ⟨gh, 0, none⟩)), (some 28, .pointer (some ⟨gh, 1, none⟩)), (some 29, .func (.func gc) #[] FR), (some 30, .pointer (some ⟨gh, 0, none⟩)), (some 31, .pointer (some ⟨gh, 0, none⟩)), (some 32, .pointer (some ⟨gh, 0, none⟩)), (some 33, .slice (some ⟨g, 0, none⟩) n cp), (some 34, .int .i64 ((i : Int))), (some 35, .pointer (some ⟨g, (i) * encH.sz, none⟩)), (some 36, encH.vf (gt d (i))), (some 37, .pointer (some ⟨gh, 0, none⟩)), (some 38, .pointer (some ⟨gh, 0, none⟩)), (some 39, .pointer (some ⟨gh, 0, none⟩)), (some 40, .slice (some ⟨g, 0, none⟩) n cp), (some 41, .int .i64 ((i : Int))), (some 42, .int .i64 ((i : Int) - 1)), (some 43, .int .i64 (((i : Int) - 1) / 2)), (some 44, .pointer (some ⟨g, ((i - 1) / 2) * encH.sz, none⟩)), (some 45, encH.vf (gt d ((i - 1) / 2))), (some 46, .bool (lt (gt d (i)) (gt d ((i - 1) / 2)))), (some 47, .bool (lt (gt d (i)) (gt d ((i - 1) / 2))))] rfl ?_
        · intro o ho b W hev
          cases ho
          exact run_callv W 29 36 45 rfl (hev 6 29 (by kernel_rfl) rfl) (hev 13 36 (by kernel_rfl) rfl) (hev 22 45 (by kernel_rfl) rfl) (Hent.out _ _)
        · intro q_ o ho k1 b W hW hev hout
          rcases q_ with _ | _ | _ | _ | _ | _ | _ | _ | _ | _ | _ | _ | _ | _ | _ | _ | _ | _ | _ | _ | _ | _ | _ | _ | _ | q_
          · cases ho
            exact run_move W (.tmp 4) rfl ((hout 4 (by kernel_rfl)).trans rfl)
          · cases ho
            exact run_gtr0 W (.tmp 23) rfl (hev 0 23 (by kernel_rfl) rfl) (by omega)
          · cases ho
            exact run_move W (.tmp 24) rfl (hev 1 24 (by kernel_rfl) rfl)
          · cases ho
            exact run_move W (.tmp 0) rfl ((hout 0 (by kernel_rfl)).trans rfl)
          · cases ho
            exact run_nil W (.tmp 26) rfl (hev 3 26 (by kernel_rfl) rfl)
          · cases ho
            exact run_fa W (.tmp 27) rfl (hev 4 27 (by kernel_rfl) rfl) fa1
          · cases ho
            exact run_load (.tmp 28) rfl (hev 5 28 (by kernel_rfl) rfl) (hl1 W hW)
          · cases ho
            exact run_move W (.tmp 0) rfl ((hout 0 (by kernel_rfl)).trans rfl)
          · cases ho
            exact run_nil W (.tmp 30) rfl (hev 7 30 (by kernel_rfl) rfl)
          · cases ho
            exact run_fa W (.tmp 31) rfl (hev 8 31 (by kernel_rfl) rfl) fa0
          · cases ho
            exact run_load (.tmp 32) rfl (hev 9 32 (by kernel_rfl) rfl) (hl0 W hW)
          · cases ho
            exact run_move W (.tmp 4) rfl ((hout 4 (by kernel_rfl)).trans rfl)
          · cases ho
            exact run_idxv W (.tmp 33) (.tmp 34) rfl (hev 10 33 (by kernel_rfl) rfl) (hev 11 34 (by kernel_rfl) rfl) (idx_at W (by omega) (by omega))
          · cases ho
            exact run_load (.tmp 35) rfl (hev 12 35 (by kernel_rfl) rfl) (hld_i W hW)
          · cases ho
            exact run_move W (.tmp 0) rfl ((hout 0 (by kernel_rfl)).trans rfl)
          · cases ho
            exact run_nil W (.tmp 37) rfl (hev 14 37 (by kernel_rfl) rfl)
          · cases ho
            exact run_fa W (.tmp 38) rfl (hev 15 38 (by kernel_rfl) rfl) fa0
          · cases ho
            exact run_load (.tmp 39) rfl (hev 16 39 (by kernel_rfl) rfl) (hl0 W hW)
          · cases ho
            exact run_move W (.tmp 4) rfl ((hout 4 (by kernel_rfl)).trans rfl)
          · cases ho
            exact run_sub W (.tmp 41) (.const (.int .i64 1)) rfl (hev 18 41 (by kernel_rfl) rfl) rfl (IntWalk.i64_in _ (by omega))
          · cases ho
            exact run_half W (.tmp 42) rfl (hev 19 42 (by kernel_rfl) rfl) (by omega) (by omega)
          · cases ho
            exact run_idxv W (.tmp 40) (.tmp 43) rfl (hev 17 40 (by kernel_rfl) rfl) (hev 20 43 (by kernel_rfl) rfl) (idx_at W (by omega) (by omega))
          · cases ho
            exact run_load (.tmp 44) rfl (hev 21 44 (by kernel_rfl) rfl) (hld_p W hW)
          · exact absurd rfl k1
          · cases ho
            exact run_pick W (.tmp 25) (.tmp 46) rfl (hev 2 25 (by kernel_rfl) rfl) (hev 23 46 (by kernel_rfl) rfl)
          · cases ho
        · intro w5 hb5
          have hs5 := hb5.size
          have HSTOP : Hid (lt (gt d i) (gt d ((i - 1) / 2)) = false → HeapR B gh (.func (.func gc) #[] FR) lt (ownB A) w.heap.size (x :: dd) w5) := Lib.hid fun hl => ⟨_, _, d, HH2.out.below hb5, HU.out.1.stop (.inr hl), HU.out.2.trans HPM.out, HOB.out.imp id fun h => ⟨g, rfl, h⟩⟩
          have HSTEP : Hid (lt (gt d i) (gt d ((i - 1) / 2)) = true → Up lt (sw d i ((i - 1) / 2)) ((i - 1) / 2)) := Lib.hid fun hl => HU.out.1.step HO.out p0 (by omega) hl
          have HR : Hid (RowG encH w5 B g cp d) := Lib.hid (HR.out.below hb5)
          have HBK5 := Lib.hid (HBK.out.below hb5 hglt)
          have HB5 := Lib.hid (⟨HB.out.1.trans (hb5.mono (by omega)), HB.out.2.below hb5⟩ : _ ∧ _)
          simp only [putP, Exit.then, Act.put, List.setIfInBounds_toArray, List.set_cons_zero, List.set_cons_succ]
          clear hl0 hl1 hld_i hld_p Hask hb5 fa1
          cases hbb : lt (gt d i) (gt d ((i - 1) / 2))
          · have HX := Lib.hid (HSTOP.out hbb)
            clear hbb
            go_wp2
            go_end0
            exact ⟨rfl, HX.out, HB2.out.trans HB5.out.1, HB5.out.2⟩
          · have HX := Lib.hid (HSTEP.out hbb)
            clear hbb
            have hl0 := fun W (hW : Only g w5 W) => load_l W (((hW.blk HBK5.out hgne).cell 0).trans rfl : W.cell? ⟨gh, 0, none⟩ = some (.slice (some ⟨g, 0, none⟩) n cp))
            go_wp2_with fail
            refine wp_exch (by kernel_rfl) (by kernel_rfl) encH okH _ g _ _ (i) ((i - 1) / 2) (by omega) (by omega) HR.out
              (fun q_ => (#[.pointer (some ⟨gh, 0, none⟩), .pointer (some ⟨gh, 0, none⟩), .pointer (some ⟨gh, 0, none⟩), .slice (some ⟨g, 0, none⟩) n cp, .int .i64 ((i : Int)), .pointer (some ⟨gh, 0, none⟩), .pointer (some ⟨gh, 0, none⟩), .pointer (some ⟨gh, 0, none⟩), .slice (some ⟨g, 0, none⟩) n cp, .int .i64 ((i : Int)), .int .i64 ((i : Int) - 1), .int .i64 (((i : Int) - 1) / 2), .pointer (some ⟨gh, 0, none⟩), .pointer (some ⟨gh, 0, none⟩), .pointer (some ⟨gh, 0, none⟩), .slice (some ⟨g, 0, none⟩) n cp, .int .i64 ((i : Int)), .int .i64 ((i : Int) - 1), .int .i64 (((i : Int) - 1) / 2), .pointer (some ⟨g, ((i - 1) / 2) * encH.sz, none⟩), encH.vf (gt d ((i - 1) / 2)), .pointer (some ⟨gh, 0, none⟩), .pointer (some ⟨gh, 0, none⟩), .pointer (some ⟨gh, 0, none⟩), .slice (some ⟨g, 0, none⟩) n cp, .int .i64 ((i : Int)), .pointer (some ⟨g, (i) * encH.sz, none⟩), encH.vf (gt d (i)), .pointer (some ⟨g, (i) * encH.sz, none⟩), undef, .pointer (some ⟨g, ((i - 1) / 2) * encH.sz, none⟩), undef] : Array Value).getD q_ undef) 20 27 29 31 19 26 28 30 70 77 79 80 71 78 rfl rfl rfl rfl rfl rfl ⟨_, rfl, rfl⟩ ⟨_, rfl, rfl⟩ ⟨_, rfl, rfl, rfl⟩ ⟨_, rfl, rfl, rfl⟩ (by exact ⟨rfl, rfl, rfl, rfl, rfl, rfl⟩) (by kernel_rfl) (by decide) ?_ [(some 51, .pointer (some ⟨gh, 0, none⟩)), (some 52, .pointer (some ⟨gh, 0, none⟩)), (some 53, .pointer (some ⟨gh, 0, none⟩)), (some 54, .slice (some ⟨g, 0, none⟩) n cp), (some 55, .int .i64 ((i : Int))), (some 56, .pointer (some ⟨gh, 0, none⟩)), (some 57, .pointer (some ⟨gh, 0, none⟩)), (some 58, .pointer (some ⟨gh, 0, none⟩)), (some 59, .slice (some ⟨g, 0, none⟩) n cp), (some 60, .int .i64 ((i : Int))), (some 61, .int .i64 ((i : Int) - 1)), (some 62, .int .i64 (((i : Int) - 1) / 2)), (some 63, .pointer (some ⟨gh, 0, none⟩)), (some 64, .pointer (some ⟨gh, 0, none⟩)), (some 65, .pointer (some ⟨gh, 0, none⟩)), (some 66, .slice (some ⟨g, 0, none⟩) n cp), (some 67, .int .i64 ((i : Int))), (some 68, .int .i64 ((i : Int) - 1)), (some 69, .int .i64 (((i : Int) - 1) / 2)), (some 70, .pointer (some ⟨g, ((i - 1) / 2) * encH.sz, none⟩)), (some 71, encH.vf (gt d ((i - 1) / 2))), (some 72, .pointer (some ⟨gh, 0, none⟩)), (some 73, .pointer (some ⟨gh, 0, none⟩)), (some 74, .pointer (some ⟨gh, 0, none⟩)), (some 75, .slice (some ⟨g, 0, none⟩) n cp), (some 76, .int .i64 ((i : Int))), (some 77, .pointer (some ⟨g, (i) * encH.sz, none⟩)), (some 78, encH.vf (gt d (i))), (some 79, .pointer (some ⟨g, (i) * encH.sz, none⟩)), (none, undef), (some 80, .pointer (some ⟨g, ((i - 1) / 2) * encH.sz, none⟩)), (none, undef)] rfl ?_ (by exact ⟨by decide, by decide⟩)
            · intro q_ o ho k1 k2 k3 k4 b W hW hev hout
              rcases q_ with _ | _ | _ | _ | _ | _ | _ | _ | _ | _ | _ | _ | _ | _ | _ | _ | _ | _ | _ | _ | _ | _ | _ | _ | _ | _ | _ | _ | _ | _ | _ | _ | q_
              · cases ho
                exact run_move W (.tmp 0) rfl ((hout 0 (by kernel_rfl)).trans rfl)
              · cases ho
                exact run_nil W (.tmp 51) rfl (hev 0 51 (by kernel_rfl) (by decide) (by decide) rfl)
              · cases ho
                exact run_fa W (.tmp 52) rfl (hev 1 52 (by kernel_rfl) (by decide) (by decide) rfl) fa0
              · cases ho
                exact run_load (.tmp 53) rfl (hev 2 53 (by kernel_rfl) (by decide) (by decide) rfl) (hl0 W hW)
              · cases ho
                exact run_move W (.tmp 4) rfl ((hout 4 (by kernel_rfl)).trans rfl)
              · cases ho
                exact run_move W (.tmp 0) rfl ((hout 0 (by kernel_rfl)).trans rfl)
              · cases ho
                exact run_nil W (.tmp 56) rfl (hev 5 56 (by kernel_rfl) (by decide) (by decide) rfl)
              · cases ho
                exact run_fa W (.tmp 57) rfl (hev 6 57 (by kernel_rfl) (by decide) (by decide) rfl) fa0
              · cases ho
                exact run_load (.tmp 58) rfl (hev 7 58 (by kernel_rfl) (by decide) (by decide) rfl) (hl0 W hW)
              · cases ho
                exact run_move W (.tmp 4) rfl ((hout 4 (by kernel_rfl)).trans rfl)
              · cases ho
                exact run_sub W (.tmp 60) (.const (.int .i64 1)) rfl (hev 9 60 (by kernel_rfl) (by decide) (by decide) rfl) rfl (IntWalk.i64_in _ (by omega))
              · cases ho
                exact run_half W (.tmp 61) rfl (hev 10 61 (by kernel_rfl) (by decide) (by decide) rfl) (by omega) (by omega)
              · cases ho
                exact run_move W (.tmp 0) rfl ((hout 0 (by kernel_rfl)).trans rfl)
              · cases ho
                exact run_nil W (.tmp 63) rfl (hev 12 63 (by kernel_rfl) (by decide) (by decide) rfl)
              · cases ho
                exact run_fa W (.tmp 64) rfl (hev 13 64 (by kernel_rfl) (by decide) (by decide) rfl) fa0
              · cases ho
                exact run_load (.tmp 65) rfl (hev 14 65 (by kernel_rfl) (by decide) (by decide) rfl) (hl0 W hW)
              · cases ho
                exact run_move W (.tmp 4) rfl ((hout 4 (by kernel_rfl)).trans rfl)
              · cases ho
                exact run_sub W (.tmp 67) (.const (.int .i64 1)) rfl (hev 16 67 (by kernel_rfl) (by decide) (by decide) rfl) rfl (IntWalk.i64_in _ (by omega))
              · cases ho
                exact run_half W (.tmp 68) rfl (hev 17 68 (by kernel_rfl) (by decide) (by decide) rfl) (by omega) (by omega)
              · cases ho
                exact run_idxv W (.tmp 66) (.tmp 69) rfl (hev 15 66 (by kernel_rfl) (by decide) (by decide) rfl) (hev 18 69 (by kernel_rfl) (by decide) (by decide) rfl) (idx_at W (by omega) (by omega))
              · exact absurd rfl k1
              · cases ho
                exact run_move W (.tmp 0) rfl ((hout 0 (by kernel_rfl)).trans rfl)
              · cases ho
                exact run_nil W (.tmp 72) rfl (hev 21 72 (by kernel_rfl) (by decide) (by decide) rfl)
              · cases ho
                exact run_fa W (.tmp 73) rfl (hev 22 73 (by kernel_rfl) (by decide) (by decide) rfl) fa0
              · cases ho
                exact run_load (.tmp 74) rfl (hev 23 74 (by kernel_rfl) (by decide) (by decide) rfl) (hl0 W hW)
              · cases ho
                exact run_move W (.tmp 4) rfl ((hout 4 (by kernel_rfl)).trans rfl)
              · cases ho
                exact run_idxv W (.tmp 75) (.tmp 76) rfl (hev 24 75 (by kernel_rfl) (by decide) (by decide) rfl) (hev 25 76 (by kernel_rfl) (by decide) (by decide) rfl) (idx_at W (by omega) (by omega))
              · exact absurd rfl k2
              · cases ho
                exact run_idxv W (.tmp 54) (.tmp 55) rfl (hev 3 54 (by kernel_rfl) (by decide) (by decide) rfl) (hev 4 55 (by kernel_rfl) (by decide) (by decide) rfl) (idx_at W (by omega) (by omega))
              · exact absurd rfl k3
              · cases ho
                exact run_idxv W (.tmp 59) (.tmp 62) rfl (hev 8 59 (by kernel_rfl) (by decide) (by decide) rfl) (hev 11 62 (by kernel_rfl) (by decide) (by decide) rfl) (idx_at W (by omega) (by omega))
              · exact absurd rfl k4
              · cases ho
            · intro w6 hrow honly
              have HH6 : Hid (HI w6 B gh (.func (.func gc) #[] FR) (some ⟨g, 0, none⟩) cp (sw d i ((i - 1) / 2))) := Lib.hid ⟨by rw [sw_len, HED.out]; exact honly.blk HBK5.out hgne, hlow, hrow⟩
              have HU6 := Lib.hid (⟨HX.out, (sw_perm (by rw [HED.out]; exact hin) (by rw [HED.out]; exact p1)).trans HU.out.2⟩ : _ ∧ _)
              have HB6 := Lib.hid (⟨HB5.out.1.trans (honly.below hgB (by omega)), HB5.out.2.only honly (.inr HOB.out)⟩ : _ ∧ _)
              have e1 : (sw d i ((i - 1) / 2)).length = d.length := sw_len _ _ _
              have e2 : n ≤ (sw d i ((i - 1) / 2)).length := by omega
              have e3 : (sw d i ((i - 1) / 2)).length ≤ n := by omega
              have e4 : ((i : Int) - 1) / 2 = (((i - 1) / 2 : Nat) : Int) := by omega
              simp only [putP, Exit.then, Act.put, List.setIfInBounds_toArray, List.set_cons_zero, List.set_cons_succ]
              clear hl0 e1 hrow honly HSTOP HSTEP
              have E4 := Lib.hid e4
              clear e4
              generalize sw d i ((i - 1) / 2) = d6 at *
              go_wp2
              go_roundw
              case rel => exact ⟨(i - 1) / 2, d6, p1, e2, e3, by rw [← E4.out], HH6, HU6, HB6⟩
              case measure => simp [intOf]; omega
end Go.Proofs.Ytophfgijfmdbcaa.Hr
