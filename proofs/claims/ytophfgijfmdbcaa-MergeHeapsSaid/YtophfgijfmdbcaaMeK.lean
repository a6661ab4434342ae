/- Choose of the reference: putting in order (first half). -/
import Derived.Test.YtophfgijfmdbcaaProg
import Derived.Test.YtophfgijfmdbcaaMeJ
import Derived.IntWalk
namespace Go.Proofs.Ytophfgijfmdbcaa
open Go.RowKit Go.Proofs.Ytophfgijfmdbcaa.So

section
variable {α : Type} [Inhabited α] {lt : α → α → Bool}
theorem gt_drop {l : List α} {i j : Nat} : gt (l.drop i) j = gt l (i + j) := by
  unfold gt
  rw [List.getD_eq_getElem?_getD, List.getD_eq_getElem?_getD, List.getElem?_drop]
/-- One thing put in: the place that the search from behind finds. -/
theorem ins_at (hO : Swo lt) {L : List α} {x : α} {n : Nat} (hs : Srt lt L) (hn : n ≤ L.length) (h1 : ∀ q ∈ L.drop n, lt x q = true) (h2 : n = 0 ∨ lt x (gt L (n - 1)) = false) : mg lt L [x] = L.take n ++ x :: L.drop n := by
  have h3 : ∀ p ∈ L.take n, lt x p = false := by
    intro p hp
    rcases h2 with h2 | h2
    · subst h2; simp at hp
    · obtain ⟨j, hj, rfl⟩ := List.getElem_of_mem hp
      rw [List.length_take] at hj
      rw [List.getElem_take, gt_eq (by omega)]
      rcases Nat.lt_or_ge j (n - 1) with h4 | h4
      · refine hO.neg _ _ _ h2 ?_
        have := List.pairwise_iff_getElem.1 hs j (n - 1) (by omega) (by omega) h4
        rw [gt_eq, gt_eq] at this
        exact this
      · obtain rfl : j = n - 1 := by omega
        exact h2
  have := mg_one (lt := lt) h3 h1
  rwa [List.take_append_drop] at this
theorem drop_more {L : List α} {x : α} {n : Nat} (hn : n < L.length) (h1 : ∀ q ∈ L.drop (n + 1), lt x q = true) (h2 : lt x (gt L n) = true) : ∀ q ∈ L.drop n, lt x q = true := by
  intro q hq
  rw [List.drop_eq_getElem_cons hn, gt_eq hn] at hq
  rcases List.mem_cons.1 hq with rfl | hq
  · exact h2
  · exact h1 q hq
end
theorem flat_take {α : Type} (c : α → Nat → Value) : ∀ (d : List α) (k : Nat), (flat c d).take (k * 9) = flat c (d.take k)
  | [], k => by simp [flat]
  | x :: r, 0 => by simp [flat]
  | x :: r, k + 1 => by
    rw [flat_cons, List.take_succ_cons, flat_cons, ← flat_take c r k, show (k + 1) * 9 = (nine c x).length + k * 9 by show _ = 9 + _; omega, List.take_length_add_append]

/-- Where a slice begins that is cut at k. -/
def cutA (A : Option Addr) (c k size : Nat) : Option Addr := if c = k then A else A.map (·.add (k * size))
theorem Reads.cutA_ {w : World} {B size n : Nat} {A : Option Addr} {xs : List Value} (h : Reads w B size A n xs) {k cap : Nat} (hk : k ≤ n) (hc : n ≤ cap) : Reads w B size (cutA A cap k size) (n - k) (xs.drop (k * size)) := h.cut hk hc
set_option maxRecDepth 100000 in
theorem slice9_at (w : World) (A : Option Addr) (n c k : Nat) (h : k ≤ n) (hc : n ≤ c) :
    (Instr.slice 22 (.slice A n c) (some (.int .i64 (k : Int))) none none).run Try.prog w = .ok (.slice (cutA A c k 9) (n - k) (c - k)) w := by
  unfold cutA
  have e : ((k : Int)).toNat = k := by omega
  obtain ⟨i, hi, _, hs, _⟩ := info_parts Try.infoEnt
  have hE : Try.prog.elem 22 = 29 := by kernel_rfl
  rw [run_slice_l w _ A n c Try.underlying22 .i64 _ (by omega) (by omega)]
  rw [hE]
  simp [sliced, Result.andThen, e, sizeOf, typeInfo, hi, hs]
theorem Ents.nine {w : World} {B : Nat} {A : Option Addr} {l : List Ent} (h : Ents w B A l) (hp : 0 < l.length) : ∃ b off, A = some ⟨b, off, none⟩ ∧ b < B ∧ ∀ i, i < l.length → w.cell? ⟨b, off + i * 9, none⟩ = some (.string (gt l i).key) ∧ w.cell? ⟨b, off + i * 9 + 1, none⟩ = some (.int .i64 (gt l i).window) ∧ w.cell? ⟨b, off + i * 9 + 2, none⟩ = some (.string (gt l i).part) ∧ w.cell? ⟨b, off + i * 9 + 3, none⟩ = some (.int .i64 (gt l i).first) ∧ w.cell? ⟨b, off + i * 9 + 4, none⟩ = some (.int .i64 (gt l i).last) ∧ w.cell? ⟨b, off + i * 9 + 5, none⟩ = some (.int .i64 (gt l i).rows) ∧ w.cell? ⟨b, off + i * 9 + 6, none⟩ = some (.int .i64 (gt l i).size) ∧ w.cell? ⟨b, off + i * 9 + 7, none⟩ = some (.int .u32 (gt l i).sum) ∧ w.cell? ⟨b, off + i * 9 + 8, none⟩ = some (.int .i64 (gt l i).born) := by
  obtain ⟨b, off, e, hb, hc⟩ := h.cellAt hp
  exact ⟨b, off, e, hb, fun i hi => ⟨hc i hi 0 (by omega), hc i hi 1 (by omega), hc i hi 2 (by omega), hc i hi 3 (by omega), hc i hi 4 (by omega), hc i hi 5 (by omega), hc i hi 6 (by omega), hc i hi 7 (by omega), hc i hi 8 (by omega)⟩⟩
theorem Ents.nine_at {w : World} {B : Nat} {A : Option Addr} {l : List Ent} (h : Ents w B A l) {b off i : Nat} (hA : A = some ⟨b, off, none⟩) (hi : i < l.length) : w.cell? ⟨b, off + i * 9, none⟩ = some (.string (gt l i).key) ∧ w.cell? ⟨b, off + i * 9 + 1, none⟩ = some (.int .i64 (gt l i).window) ∧ w.cell? ⟨b, off + i * 9 + 2, none⟩ = some (.string (gt l i).part) ∧ w.cell? ⟨b, off + i * 9 + 3, none⟩ = some (.int .i64 (gt l i).first) ∧ w.cell? ⟨b, off + i * 9 + 4, none⟩ = some (.int .i64 (gt l i).last) ∧ w.cell? ⟨b, off + i * 9 + 5, none⟩ = some (.int .i64 (gt l i).rows) ∧ w.cell? ⟨b, off + i * 9 + 6, none⟩ = some (.int .i64 (gt l i).size) ∧ w.cell? ⟨b, off + i * 9 + 7, none⟩ = some (.int .u32 (gt l i).sum) ∧ w.cell? ⟨b, off + i * 9 + 8, none⟩ = some (.int .i64 (gt l i).born) := by
  obtain ⟨b', off', e, _, hc⟩ := h.nine (by omega)
  rw [hA] at e
  injection e with e
  injection e with e1 e2
  subst e1 e2
  exact hc i hi
theorem Blk.nine {w : World} {g : Nat} {t : TypeId} {x : Ent} (h : Blk w g t #[.string x.key, .int .i64 x.window, .string x.part, .int .i64 x.first, .int .i64 x.last, .int .i64 x.rows, .int .i64 x.size, .int .u32 x.sum, .int .i64 x.born]) : w.cell? ⟨g, 0, none⟩ = some (.string x.key) ∧ w.cell? ⟨g, 1, none⟩ = some (.int .i64 x.window) ∧ w.cell? ⟨g, 2, none⟩ = some (.string x.part) ∧ w.cell? ⟨g, 3, none⟩ = some (.int .i64 x.first) ∧ w.cell? ⟨g, 4, none⟩ = some (.int .i64 x.last) ∧ w.cell? ⟨g, 5, none⟩ = some (.int .i64 x.rows) ∧ w.cell? ⟨g, 6, none⟩ = some (.int .i64 x.size) ∧ w.cell? ⟨g, 7, none⟩ = some (.int .u32 x.sum) ∧ w.cell? ⟨g, 8, none⟩ = some (.int .i64 x.born) :=
  ⟨h.cell 0, h.cell 1, h.cell 2, h.cell 3, h.cell 4, h.cell 5, h.cell 6, h.cell 7, h.cell 8⟩

/-- What the reference takes: behind two that may be put together, what fits. -/
def rstp (small most : Int) (a : Ent) (q : Int × List ByteArray) (x : Ent) : Int × List ByteArray := if x.window = a.window ∧ x.part = a.part ∧ x.rows < small ∧ x.rows ≤ most - q.1 then (q.1 + x.rows, q.2 ++ [x.key]) else q
def refRow (small most : Int) (a : Ent) : List Ent → Option (List ByteArray)
  | [] => none
  | b :: r => if togB small most a b = true then some (r.foldl (rstp small most a) (a.rows + b.rows, [a.key, b.key])).2 else refRow small most a r
def refPick (small most : Int) : List Ent → List ByteArray
  | [] => []
  | a :: r => (refRow small most a r).getD (refPick small most r)
set_option maxRecDepth 100000 in
set_option maxHeartbeats 12800000 in
theorem refChoose_calls (w : World) {B c : Nat} {A : Option Addr} {l : List Ent} (small most : Int) (h : Ents w B A l) (hB : B ≤ w.heap.size) (hn : l.length ≤ 61) (hm0 : 0 ≤ most) (hm1 : most ≤ 1099511627776) (hrows : ∀ x ∈ l, 0 ≤ x.rows ∧ x.rows ≤ 2048) :
    Calls Try.prog 13 #[.slice A l.length c, .int .i64 small, .int .i64 most] w (RetStrs w (refPick small most (isort (ltc cfE) l))) := by
  have HE := Lib.hid h
  have HROWS := Lib.hid hrows
  clear h hrows
  go_enter Try.func13, Try.ntmps13
  go_wp2
  go_loopw [7, 21] (fun va vi wr => ∃ (i : Nat) (A' : Option Addr) (c' : Nat), i ≤ l.length ∧ vi = .int .i64 (i : Int) ∧ va = .slice A' i c' ∧ i ≤ c' ∧ Hid ((isort (ltc cfE) (l.take i)).length = i) ∧ Hid (wr.ownsRow w.heap.size 29 9 (.slice A' i c') i (flat Ent.c (isort (ltc cfE) (l.take i)))) ∧ Below w.heap.size w wr) (fun _ vi _ => l.length - (intOf vi).toNat)
  case atStart => exact ⟨0, _, _, Nat.zero_le _, rfl, rfl, Nat.zero_le _, Lib.hid rfl, Lib.hid (World.ownsRow_made w #[] 0 (Nat.le_refl _) (Nat.zero_le _) rfl), (Below.refl _ _).alloc (Nat.le_refl _) _⟩
  case round =>
    obtain ⟨i, A', c', hil, rfl, rfl, hic, HLn, HO, hbel⟩ := hrel
    obtain ⟨wo, rfl⟩ : ∃ wo : World, wo = wr := ⟨_, rfl⟩
    have hsz := hbel.size
    by_cases hlt : i < l.length
    · obtain ⟨bA, off, hA, hbB, hcell⟩ := (show Ents wo B A l from Reads.below HE.out (hbel.mono hB)).nine (by omega)
      have hx := HROWS.out _ (show gt l i ∈ l by rw [← gt_eq hlt]; exact List.getElem_mem _)
      obtain ⟨y0, y1, y2, y3, y4, y5, y6, y7, y8⟩ := hcell i hlt
      have HT : Hid (isort (ltc cfE) (l.take (i + 1)) = mg (ltc cfE) (isort (ltc cfE) (l.take i)) [gt l i]) := Lib.hid (by rw [take_snoc hlt, isort_snoc])
      have HSR : Hid (Srt (ltc cfE) (isort (ltc cfE) (l.take i))) := Lib.hid (isort_srt swoE _)
      subst hA
      clear hcell
      generalize gt l i = x at *
      generalize isort (ltc cfE) (l.take i) = L at *
      go_wp2
      have hbk : Blk (wo.alloc (.cells #[.string x.key, .int .i64 x.window, .string x.part, .int .i64 x.first, .int .i64 x.last, .int .i64 x.rows, .int .i64 x.size, .int .u32 x.sum, .int .i64 x.born] 29)) wo.heap.size 29 #[.string x.key, .int .i64 x.window, .string x.part, .int .i64 x.first, .int .i64 x.last, .int .i64 x.rows, .int .i64 x.size, .int .u32 x.sum, .int .i64 x.born] := Blk.new _ _ _
      have hsw : (wo.alloc (.cells #[.string x.key, .int .i64 x.window, .string x.part, .int .i64 x.first, .int .i64 x.last, .int .i64 x.rows, .int .i64 x.size, .int .u32 x.sum, .int .i64 x.born] 29)).heap.size = wo.heap.size + 1 := by simp
      have hbe : Below wo.heap.size wo (wo.alloc (.cells #[.string x.key, .int .i64 x.window, .string x.part, .int .i64 x.first, .int .i64 x.last, .int .i64 x.rows, .int .i64 x.size, .int .u32 x.sum, .int .i64 x.born] 29)) := (Below.refl _ _).alloc (Nat.le_refl _) _
      have HI := Lib.hid (⟨hbk, hbe, hsw⟩ : _ ∧ _ ∧ _)
      have hsw2 : wo.heap.size < (wo.alloc (.cells #[.string x.key, .int .i64 x.window, .string x.part, .int .i64 x.first, .int .i64 x.last, .int .i64 x.rows, .int .i64 x.size, .int .u32 x.sum, .int .i64 x.born] 29)).heap.size := by omega
      clear hbk hbe hsw
      generalize wo.alloc (.cells #[.string x.key, .int .i64 x.window, .string x.part, .int .i64 x.first, .int .i64 x.last, .int .i64 x.rows, .int .i64 x.size, .int .u32 x.sum, .int .i64 x.born] 29) = w4 at *
      go_loopw [10] (fun vn wx => ∃ n : Nat, n ≤ i ∧ vn = .int .i64 (n : Int) ∧ Hid (∀ q ∈ L.drop n, ltc cfE x q = true) ∧ Below w4.heap.size w4 wx) (fun vn _ => (intOf vn).toNat)
      case atStart => exact ⟨i, Nat.le_refl _, rfl, Lib.hid (by rw [List.drop_of_length_le (by rw [HLn.out]; exact Nat.le_refl _)]; simp), Below.refl _ _⟩
      case round =>
        obtain ⟨n, hni, rfl, HQ, hb4⟩ := hrel
        have hs4 := hb4.size
        have hbw : Below wo.heap.size wo wr := HI.out.2.1.trans (hb4.mono (by omega))
        obtain ⟨z0, z1, z2, z3, z4, z5, z6, z7, z8⟩ := Blk.nine (HI.out.1.below hb4 hsw2)
        have HB4 := Lib.hid hb4
        clear hb4
        by_cases hn0 : 0 < n
        · have hE2 : Ents wr wo.heap.size A' L := by
            have h1 := Reads.below (Reads.of_own HO.out) hbw
            unfold Ents
            rw [HLn.out]
            exact h1
          obtain ⟨g, o2, hA2, hgB, hcell⟩ := hE2.nine (by rw [HLn.out]; omega)
          obtain ⟨q0, q1, q2, q3, q4, q5, q6, q7, q8⟩ := hcell (n - 1) (by rw [HLn.out]; omega)
          have hAC := fun W => ahead_calls x (gt L (n - 1)) W
          have HMF : Hid (ltc cfE x (gt L (n - 1)) = false → mg (ltc cfE) L [x] = L.take n ++ x :: L.drop n) := Lib.hid fun hq => ins_at (lt := ltc cfE) swoE (x := x) (n := n) HSR.out (by rw [HLn.out]; exact hni) HQ.out (.inr hq)
          have HD : Hid (((∀ q ∈ L.drop (n - 1 + 1), ltc cfE x q = true) → ltc cfE x (gt L (n - 1)) = true → ∀ q ∈ L.drop (n - 1), ltc cfE x q = true) ∧ ltc cfE x (gt L (n - 1)) = ltc cfE x (gt L (n - 1))) := Lib.hid ⟨drop_more (lt := ltc cfE) (L := L) (x := x) (n := n - 1) (by rw [HLn.out]; omega), rfl⟩
          have Hkeep : Hid (∀ W, Below wr.heap.size wr W → (W.cell? ⟨wo.heap.size, 0, none⟩ = some (.string x.key) ∧ W.cell? ⟨wo.heap.size, 1, none⟩ = some (.int .i64 x.window) ∧ W.cell? ⟨wo.heap.size, 2, none⟩ = some (.string x.part) ∧ W.cell? ⟨wo.heap.size, 3, none⟩ = some (.int .i64 x.first) ∧ W.cell? ⟨wo.heap.size, 4, none⟩ = some (.int .i64 x.last) ∧ W.cell? ⟨wo.heap.size, 5, none⟩ = some (.int .i64 x.rows) ∧ W.cell? ⟨wo.heap.size, 6, none⟩ = some (.int .i64 x.size) ∧ W.cell? ⟨wo.heap.size, 7, none⟩ = some (.int .u32 x.sum) ∧ W.cell? ⟨wo.heap.size, 8, none⟩ = some (.int .i64 x.born)) ∧ W.cell? ⟨g, o2 + (n - 1) * 9, none⟩ = some (.string (gt L (n - 1)).key) ∧ W.cell? ⟨g, o2 + (n - 1) * 9 + 1, none⟩ = some (.int .i64 (gt L (n - 1)).window) ∧ W.cell? ⟨g, o2 + (n - 1) * 9 + 2, none⟩ = some (.string (gt L (n - 1)).part) ∧ W.cell? ⟨g, o2 + (n - 1) * 9 + 3, none⟩ = some (.int .i64 (gt L (n - 1)).first) ∧ W.cell? ⟨g, o2 + (n - 1) * 9 + 4, none⟩ = some (.int .i64 (gt L (n - 1)).last) ∧ W.cell? ⟨g, o2 + (n - 1) * 9 + 5, none⟩ = some (.int .i64 (gt L (n - 1)).rows) ∧ W.cell? ⟨g, o2 + (n - 1) * 9 + 6, none⟩ = some (.int .i64 (gt L (n - 1)).size) ∧ W.cell? ⟨g, o2 + (n - 1) * 9 + 7, none⟩ = some (.int .u32 (gt L (n - 1)).sum) ∧ W.cell? ⟨g, o2 + (n - 1) * 9 + 8, none⟩ = some (.int .i64 (gt L (n - 1)).born)) := Lib.hid fun W hW => ⟨Blk.nine ((HI.out.1.below HB4.out hsw2).below hW (by omega)), (show Ents W wo.heap.size A' L from Reads.below hE2 (hW.mono (by omega))).nine_at hA2 (by rw [HLn.out]; omega)⟩
          unfold entA at hAC
          clear hcell hE2
          generalize gt L (n - 1) = y at *
          subst hA2
          have d0 : decide (0 < (n : Int)) = true := dct (by omega)
          cases hlc : ltc cfE x y
          · have HM := Lib.hid (HMF.out hlc)
            rw [hlc] at hAC
            have HAC := Lib.hid hAC
            clear hAC hlc HD HMF
            have i1 : IntKind.i64.wrap ((n : Int) - 1) = (n : Int) - 1 := IntWalk.i64_in _ (by omega)
            have i2 : ((n : Int) - 1).toNat = n - 1 := by omega
            have i3 : (0 : Int) ≤ (n : Int) - 1 := by omega
            have i4 : (1 : Int) ≤ (n : Int) := by omega
            have i5 : (n : Int) - 1 < (i : Int) := by omega
            go_wp2_with fail
            go_region_held3 (fun w' => (w'.cell? ⟨wo.heap.size, 0, none⟩ = some (.string x.key) ∧ w'.cell? ⟨wo.heap.size, 1, none⟩ = some (.int .i64 x.window) ∧ w'.cell? ⟨wo.heap.size, 2, none⟩ = some (.string x.part) ∧ w'.cell? ⟨wo.heap.size, 3, none⟩ = some (.int .i64 x.first) ∧ w'.cell? ⟨wo.heap.size, 4, none⟩ = some (.int .i64 x.last) ∧ w'.cell? ⟨wo.heap.size, 5, none⟩ = some (.int .i64 x.rows) ∧ w'.cell? ⟨wo.heap.size, 6, none⟩ = some (.int .i64 x.size) ∧ w'.cell? ⟨wo.heap.size, 7, none⟩ = some (.int .u32 x.sum) ∧ w'.cell? ⟨wo.heap.size, 8, none⟩ = some (.int .i64 x.born)) ∧ w'.cell? ⟨g, o2 + (n - 1) * 9, none⟩ = some (.string y.key) ∧ w'.cell? ⟨g, o2 + (n - 1) * 9 + 1, none⟩ = some (.int .i64 y.window) ∧ w'.cell? ⟨g, o2 + (n - 1) * 9 + 2, none⟩ = some (.string y.part) ∧ w'.cell? ⟨g, o2 + (n - 1) * 9 + 3, none⟩ = some (.int .i64 y.first) ∧ w'.cell? ⟨g, o2 + (n - 1) * 9 + 4, none⟩ = some (.int .i64 y.last) ∧ w'.cell? ⟨g, o2 + (n - 1) * 9 + 5, none⟩ = some (.int .i64 y.rows) ∧ w'.cell? ⟨g, o2 + (n - 1) * 9 + 6, none⟩ = some (.int .i64 y.size) ∧ w'.cell? ⟨g, o2 + (n - 1) * 9 + 7, none⟩ = some (.int .u32 y.sum) ∧ w'.cell? ⟨g, o2 + (n - 1) * 9 + 8, none⟩ = some (.int .i64 y.born)) (exact Hkeep.out _ (by first | assumption | exact below_drewN_ (Below.refl _ _) 1)) ((go_at_call 35; refine (HAC.out _).mono ?_; rintro e w5 ⟨rfl, hb5⟩; have he5 : Below wr.heap.size wr w5 := (below_drewN_ (Below.refl _ _) 1).trans hb5))
            clear i1 i2 i3 i4 i5
            have hs5 := he5.size
            have hb05 : Below wo.heap.size wo w5 := hbw.trans (he5.mono (by omega))
            have hsw5 : wo.heap.size < w5.heap.size := by omega
            have HBK5 := Lib.hid ((HI.out.1.below HB4.out hsw2).below he5 (by omega))
            have HRD5 : Hid (Reads w5 wo.heap.size 9 (some ⟨g, o2, none⟩) i (flat Ent.c L)) := Lib.hid ((Reads.of_own HO.out).below hb05)
            have HB05 := Lib.hid hb05
            clear he5 hb05
            go_wp2_with (at_builtin; go_must (refine wpList_append_sl _ rfl (.tmp 40) (.tmp 43) _ rfl w5.heap.size 29 _ 9 88 Try.underlying22 Try.infoEnt rfl (by omega) _ _ _ rfl (World.ownsRow_made w5 #[] 0 (Nat.le_refl _) (Nat.zero_le _) rfl) wo.heap.size _ n c' (flat Ent.c (L.take n)) rfl (by have := HRD5.out.take hni; rw [flat_take] at this; exact this.below ((Below.refl _ _).alloc (by omega) _)) (flat_one _) (by unfold maxLen; omega) (by omega) (by simp) ?_))
            intro A6 c6 w6 hc61 hc62 hrd6 hbel6 hown6 _ _
            have hown6' : w6.ownsRow w5.heap.size 29 9 (.slice A6 n c6) n (flat Ent.c (L.take n)) := by simpa using hown6
            have hb56 : Below w5.heap.size w5 w6 := ((Below.refl _ _).alloc (Nat.le_refl _) _).trans hbel6
            have hs6 := hb56.size
            obtain ⟨z0, z1, z2, z3, z4, z5, z6, z7, z8⟩ := Blk.nine (HBK5.out.below hb56 hsw5)
            have HO6 := Lib.hid hown6'
            have HB56 := Lib.hid hb56
            clear hown6 hown6' hrd6 hbel6 hb56 hc61 hc62
            go_wp2_with (at_builtin; go_must (refine wpList_append_sl _ rfl (.tmp 45) (.tmp 47) _ rfl w5.heap.size 29 _ 9 88 Try.underlying22 Try.infoEnt rfl (by omega) _ _ _ rfl (HO6.out.alloc _) (w6.heap.size + 1) _ 1 1 (nine Ent.c x) rfl (Reads.made (n := 1) (size := 9) w6 _ _ rfl) (by intro u hu; simp [nine] at hu; rcases hu with rfl | rfl | rfl | rfl | rfl | rfl | rfl | rfl | rfl <;> exact Ent.one x _) (by unfold maxLen; omega) (by omega) (by simp; omega) ?_))
            intro A7 c7 w7 hc71 hc72 hrd7 hbel7 hown7 _ _
            have hb57 : Below w5.heap.size w5 w7 := (HB56.out.alloc (by omega) _).trans hbel7
            have hs7 := hb57.size
            have hcut := Reads.cutA_ (k := n) (cap := c') (n := i) (HRD5.out.below (hb57.mono (by omega))) hni hic
            have hrun := fun W => slice9_at W (some ⟨g, o2, none⟩) i c' n hni hic
            have HO7 := Lib.hid hown7
            have HB57 := Lib.hid hb57
            rw [flat_drop] at hcut
            generalize cutA (some ⟨g, o2, none⟩) c' n 9 = AC at *
            have HCUT := Lib.hid hcut
            clear hown7 hrd7 hbel7 hb57 hc71 hc72 hcut
            go_wp2_with (at_builtin; go_must (refine wpList_append_sl _ rfl (.tmp 49) (.tmp 52) _ rfl w5.heap.size 29 _ 9 88 Try.underlying22 Try.infoEnt rfl (by omega) _ _ _ rfl HO7.out wo.heap.size AC (i - n) (c' - n) (flat Ent.c (L.drop n)) rfl HCUT.out (flat_one _) (by unfold maxLen; omega) (by omega) (by omega) ?_))
            intro A8 c8 w8 hc81 hc82 hrd8 hbel8 hown8 _ _
            have e8 : n + 1 + (i - n) = i + 1 := by omega
            rw [e8] at hown8 hc81 ⊢
            have HO8 : Hid (w8.ownsRow w.heap.size 29 9 (.slice A8 (i + 1) c8) (i + 1) (flat Ent.c (isort (ltc cfE) (l.take (i + 1))))) := Lib.hid (by
              rw [HT.out, HM.out, flat_app, flat_cons]
              exact own_base hown8 (by omega))
            have HL8 : Hid ((isort (ltc cfE) (l.take (i + 1))).length = i + 1) := Lib.hid (by rw [isort_len, List.length_take]; omega)
            have HB8 : Hid (Below w.heap.size w w8) := Lib.hid (hbel.trans ((HB05.out.mono hsz).trans ((HB57.out.mono (by omega)).trans (hbel8.mono (by omega)))))
            clear hown8 hrd8 hbel8 e8 hrun hc82
            go_wp2
            go_roundw
            case rel => exact ⟨i + 1, A8, c8, by omega, by go_num, rfl, hc81, HL8, HO8, HB8.out⟩
            case measure => simp [intOf]; omega
          · have HQ2 : Hid (∀ q ∈ L.drop (n - 1), ltc cfE x q = true) := Lib.hid (HD.out.1 (by rw [Nat.sub_add_cancel (by omega)]; exact HQ.out) hlc)
            rw [hlc] at hAC
            have HAC := Lib.hid hAC
            clear hAC hlc HD HMF
            have i1 : IntKind.i64.wrap ((n : Int) - 1) = (n : Int) - 1 := IntWalk.i64_in _ (by omega)
            have i2 : ((n : Int) - 1).toNat = n - 1 := by omega
            have i3 : (0 : Int) ≤ (n : Int) - 1 := by omega
            have i4 : (1 : Int) ≤ (n : Int) := by omega
            have i5 : (n : Int) - 1 < (i : Int) := by omega
            go_wp2_with fail
            go_region_held3 (fun w' => (w'.cell? ⟨wo.heap.size, 0, none⟩ = some (.string x.key) ∧ w'.cell? ⟨wo.heap.size, 1, none⟩ = some (.int .i64 x.window) ∧ w'.cell? ⟨wo.heap.size, 2, none⟩ = some (.string x.part) ∧ w'.cell? ⟨wo.heap.size, 3, none⟩ = some (.int .i64 x.first) ∧ w'.cell? ⟨wo.heap.size, 4, none⟩ = some (.int .i64 x.last) ∧ w'.cell? ⟨wo.heap.size, 5, none⟩ = some (.int .i64 x.rows) ∧ w'.cell? ⟨wo.heap.size, 6, none⟩ = some (.int .i64 x.size) ∧ w'.cell? ⟨wo.heap.size, 7, none⟩ = some (.int .u32 x.sum) ∧ w'.cell? ⟨wo.heap.size, 8, none⟩ = some (.int .i64 x.born)) ∧ w'.cell? ⟨g, o2 + (n - 1) * 9, none⟩ = some (.string y.key) ∧ w'.cell? ⟨g, o2 + (n - 1) * 9 + 1, none⟩ = some (.int .i64 y.window) ∧ w'.cell? ⟨g, o2 + (n - 1) * 9 + 2, none⟩ = some (.string y.part) ∧ w'.cell? ⟨g, o2 + (n - 1) * 9 + 3, none⟩ = some (.int .i64 y.first) ∧ w'.cell? ⟨g, o2 + (n - 1) * 9 + 4, none⟩ = some (.int .i64 y.last) ∧ w'.cell? ⟨g, o2 + (n - 1) * 9 + 5, none⟩ = some (.int .i64 y.rows) ∧ w'.cell? ⟨g, o2 + (n - 1) * 9 + 6, none⟩ = some (.int .i64 y.size) ∧ w'.cell? ⟨g, o2 + (n - 1) * 9 + 7, none⟩ = some (.int .u32 y.sum) ∧ w'.cell? ⟨g, o2 + (n - 1) * 9 + 8, none⟩ = some (.int .i64 y.born)) (exact Hkeep.out _ (by first | assumption | exact below_drewN_ (Below.refl _ _) 1)) ((go_at_call 35; refine (HAC.out _).mono ?_; rintro e w5 ⟨rfl, hb5⟩; have he5 : Below wr.heap.size wr w5 := (below_drewN_ (Below.refl _ _) 1).trans hb5))
            clear i1 i2 i3 i4 i5
            go_wp2
            go_roundw
            case rel => exact ⟨n - 1, by omega, by go_num, HQ2, HB4.out.trans (he5.mono hs4)⟩
            case measure => simp [intOf]; omega
        · have d0 : decide (0 < (n : Int)) = false := dcf (by omega)
          have HM := Lib.hid (ins_at (lt := ltc cfE) swoE (x := x) (n := n) HSR.out (by rw [HLn.out]; exact hni) HQ.out (.inl (by omega)))
          go_wp2_with fail
          go_quiet (fail)
          have he5 : Below wr.heap.size wr (wr.drewN nq) := below_drewN_ (Below.refl _ _) _
          generalize wr.drewN nq = w5 at *
          have hs5 := he5.size
          have hb05 : Below wo.heap.size wo w5 := hbw.trans (he5.mono (by omega))
          have hsw5 : wo.heap.size < w5.heap.size := by omega
          have HBK5 := Lib.hid ((HI.out.1.below HB4.out hsw2).below he5 (by omega))
          have HRD5 : Hid (Reads w5 wo.heap.size 9 A' i (flat Ent.c L)) := Lib.hid ((Reads.of_own HO.out).below hb05)
          have HB05 := Lib.hid hb05
          clear he5 hb05
          go_wp2_with (at_builtin; go_must (refine wpList_append_sl _ rfl (.tmp 40) (.tmp 43) _ rfl w5.heap.size 29 _ 9 88 Try.underlying22 Try.infoEnt rfl (by omega) _ _ _ rfl (World.ownsRow_made w5 #[] 0 (Nat.le_refl _) (Nat.zero_le _) rfl) wo.heap.size _ n c' (flat Ent.c (L.take n)) rfl (by have := HRD5.out.take hni; rw [flat_take] at this; exact this.below ((Below.refl _ _).alloc (by omega) _)) (flat_one _) (by unfold maxLen; omega) (by omega) (by simp) ?_))
          intro A6 c6 w6 hc61 hc62 hrd6 hbel6 hown6 _ _
          have hown6' : w6.ownsRow w5.heap.size 29 9 (.slice A6 n c6) n (flat Ent.c (L.take n)) := by simpa using hown6
          have hb56 : Below w5.heap.size w5 w6 := ((Below.refl _ _).alloc (Nat.le_refl _) _).trans hbel6
          have hs6 := hb56.size
          obtain ⟨z0, z1, z2, z3, z4, z5, z6, z7, z8⟩ := Blk.nine (HBK5.out.below hb56 hsw5)
          have HO6 := Lib.hid hown6'
          have HB56 := Lib.hid hb56
          clear hown6 hown6' hrd6 hbel6 hb56 hc61 hc62
          go_wp2_with (at_builtin; go_must (refine wpList_append_sl _ rfl (.tmp 45) (.tmp 47) _ rfl w5.heap.size 29 _ 9 88 Try.underlying22 Try.infoEnt rfl (by omega) _ _ _ rfl (HO6.out.alloc _) (w6.heap.size + 1) _ 1 1 (nine Ent.c x) rfl (Reads.made (n := 1) (size := 9) w6 _ _ rfl) (by intro u hu; simp [nine] at hu; rcases hu with rfl | rfl | rfl | rfl | rfl | rfl | rfl | rfl | rfl <;> exact Ent.one x _) (by unfold maxLen; omega) (by omega) (by simp; omega) ?_))
          intro A7 c7 w7 hc71 hc72 hrd7 hbel7 hown7 _ _
          have hb57 : Below w5.heap.size w5 w7 := (HB56.out.alloc (by omega) _).trans hbel7
          have hs7 := hb57.size
          have hcut := Reads.cutA_ (k := n) (cap := c') (n := i) (HRD5.out.below (hb57.mono (by omega))) hni hic
          have hrun := fun W => slice9_at W A' i c' n hni hic
          have HO7 := Lib.hid hown7
          have HB57 := Lib.hid hb57
          rw [flat_drop] at hcut
          generalize cutA A' c' n 9 = AC at *
          have HCUT := Lib.hid hcut
          clear hown7 hrd7 hbel7 hb57 hc71 hc72 hcut
          go_wp2_with (at_builtin; go_must (refine wpList_append_sl _ rfl (.tmp 49) (.tmp 52) _ rfl w5.heap.size 29 _ 9 88 Try.underlying22 Try.infoEnt rfl (by omega) _ _ _ rfl HO7.out wo.heap.size AC (i - n) (c' - n) (flat Ent.c (L.drop n)) rfl HCUT.out (flat_one _) (by unfold maxLen; omega) (by omega) (by omega) ?_))
          intro A8 c8 w8 hc81 hc82 hrd8 hbel8 hown8 _ _
          have e8 : n + 1 + (i - n) = i + 1 := by omega
          rw [e8] at hown8 hc81 ⊢
          have HO8 : Hid (w8.ownsRow w.heap.size 29 9 (.slice A8 (i + 1) c8) (i + 1) (flat Ent.c (isort (ltc cfE) (l.take (i + 1))))) := Lib.hid (by
            rw [HT.out, HM.out, flat_app, flat_cons]
            exact own_base hown8 (by omega))
          have HL8 : Hid ((isort (ltc cfE) (l.take (i + 1))).length = i + 1) := Lib.hid (by rw [isort_len, List.length_take]; omega)
          have HB8 : Hid (Below w.heap.size w w8) := Lib.hid (hbel.trans ((HB05.out.mono hsz).trans ((HB57.out.mono (by omega)).trans (hbel8.mono (by omega)))))
          clear hown8 hrd8 hbel8 e8 hrun hc82
          go_wp2
          go_roundw
          case rel => exact ⟨i + 1, A8, c8, by omega, by go_num, rfl, hc81, HL8, HO8, HB8.out⟩
          case measure => simp [intOf]; omega
    · obtain rfl : i = l.length := by omega
      rw [List.take_length] at HLn HO
      have HRS : Hid (∀ x ∈ isort (ltc cfE) l, 0 ≤ x.rows ∧ x.rows ≤ 2048) := Lib.hid fun x hx => HROWS.out x (isort_mem.1 hx)
      have HEN : Hid (Ents wo wo.heap.size A' (isort (ltc cfE) l)) := Lib.hid (by
        have h1 := Reads.of_own HO.out
        unfold Ents
        rw [HLn.out]
        exact h1)
      generalize isort (ltc cfE) l = s at *
      generalize l.length = N at *
      clear HO HE hic hlt
      have HBEL := Lib.hid hbel
      clear hbel
      go_wp2
      go_loopw [57] (fun vi wx => ∃ i : Nat, i ≤ N ∧ vi = .int .i64 (i : Int) ∧ Hid (refPick small most s = refPick small most (s.drop i)) ∧ Below wo.heap.size wo wx) (fun vi _ => N - (intOf vi).toNat)
      case atStart => exact ⟨0, Nat.zero_le _, rfl, Lib.hid (by rw [List.drop_zero]), Below.refl _ _⟩
      case round =>
        obtain ⟨i, hiN, rfl, HP, hb2⟩ := hrel
        obtain ⟨w2, rfl⟩ : ∃ w2 : World, w2 = wr := ⟨_, rfl⟩
        have hs2 := hb2.size
        by_cases hlt : i < N
        · obtain ⟨bA, off, hA, hbB, _⟩ := HEN.out.nine (by rw [HLn.out]; omega)
          have HCa : Hid (∀ W, Below wo.heap.size wo W → W.cell? ⟨bA, off + i * 9, none⟩ = some (.string (gt s i).key) ∧ W.cell? ⟨bA, off + i * 9 + 1, none⟩ = some (.int .i64 (gt s i).window) ∧ W.cell? ⟨bA, off + i * 9 + 2, none⟩ = some (.string (gt s i).part) ∧ W.cell? ⟨bA, off + i * 9 + 3, none⟩ = some (.int .i64 (gt s i).first) ∧ W.cell? ⟨bA, off + i * 9 + 4, none⟩ = some (.int .i64 (gt s i).last) ∧ W.cell? ⟨bA, off + i * 9 + 5, none⟩ = some (.int .i64 (gt s i).rows) ∧ W.cell? ⟨bA, off + i * 9 + 6, none⟩ = some (.int .i64 (gt s i).size) ∧ W.cell? ⟨bA, off + i * 9 + 7, none⟩ = some (.int .u32 (gt s i).sum) ∧ W.cell? ⟨bA, off + i * 9 + 8, none⟩ = some (.int .i64 (gt s i).born)) := Lib.hid fun W hW => (show Ents W wo.heap.size A' s from Reads.below HEN.out hW).nine_at hA (by rw [HLn.out]; omega)
          have HCb : Hid (∀ W, Below wo.heap.size wo W → ∀ k, k < N → W.cell? ⟨bA, off + k * 9, none⟩ = some (.string (gt s k).key) ∧ W.cell? ⟨bA, off + k * 9 + 1, none⟩ = some (.int .i64 (gt s k).window) ∧ W.cell? ⟨bA, off + k * 9 + 2, none⟩ = some (.string (gt s k).part) ∧ W.cell? ⟨bA, off + k * 9 + 3, none⟩ = some (.int .i64 (gt s k).first) ∧ W.cell? ⟨bA, off + k * 9 + 4, none⟩ = some (.int .i64 (gt s k).last) ∧ W.cell? ⟨bA, off + k * 9 + 5, none⟩ = some (.int .i64 (gt s k).rows) ∧ W.cell? ⟨bA, off + k * 9 + 6, none⟩ = some (.int .i64 (gt s k).size) ∧ W.cell? ⟨bA, off + k * 9 + 7, none⟩ = some (.int .u32 (gt s k).sum) ∧ W.cell? ⟨bA, off + k * 9 + 8, none⟩ = some (.int .i64 (gt s k).born)) := Lib.hid fun W hW k hk => (show Ents W wo.heap.size A' s from Reads.below HEN.out hW).nine_at hA (by rw [HLn.out]; omega)
          have hda : s.drop i = gt s i :: s.drop (i + 1) := by rw [List.drop_eq_getElem_cons (by rw [HLn.out]; omega), gt_eq]
          have hra := HRS.out _ (show gt s i ∈ s by rw [← gt_eq (by rw [HLn.out]; omega)]; exact List.getElem_mem _)
          have HP2 : Hid (refPick small most s = (refRow small most (gt s i) (s.drop (i + 1))).getD (refPick small most (s.drop (i + 1)))) := Lib.hid (by rw [HP.out, hda]; rfl)
          clear hda
          generalize gt s i = a at *
          obtain ⟨ha0, ha1⟩ := hra
          subst hA
          go_wp2
          go_loopw [13] (fun vk wx => ∃ k : Nat, i + 1 ≤ k ∧ k ≤ N ∧ vk = .int .i64 (k : Int) ∧ Hid (refPick small most s = (refRow small most a (s.drop k)).getD (refPick small most (s.drop (i + 1)))) ∧ Below wo.heap.size wo wx) (fun vk _ => N - (intOf vk).toNat)
          case atStart => exact ⟨i + 1, Nat.le_refl _, by omega, by go_num, HP2, hb2⟩
          case round =>
            obtain ⟨k, hik, hkN, rfl, HQ, hb3⟩ := hrel
            obtain ⟨w3, rfl⟩ : ∃ w3 : World, w3 = wr := ⟨_, rfl⟩
            have hs3 := hb3.size
            by_cases hkl : k < N
            · have hdb : s.drop k = gt s k :: s.drop (k + 1) := by rw [List.drop_eq_getElem_cons (by rw [HLn.out]; omega), gt_eq]
              have hrb := HRS.out _ (show gt s k ∈ s by rw [← gt_eq (by rw [HLn.out]; omega)]; exact List.getElem_mem _)
              have HCk : Hid (∀ W, Below wo.heap.size wo W → W.cell? ⟨bA, off + k * 9, none⟩ = some (.string (gt s k).key) ∧ W.cell? ⟨bA, off + k * 9 + 1, none⟩ = some (.int .i64 (gt s k).window) ∧ W.cell? ⟨bA, off + k * 9 + 2, none⟩ = some (.string (gt s k).part) ∧ W.cell? ⟨bA, off + k * 9 + 3, none⟩ = some (.int .i64 (gt s k).first) ∧ W.cell? ⟨bA, off + k * 9 + 4, none⟩ = some (.int .i64 (gt s k).last) ∧ W.cell? ⟨bA, off + k * 9 + 5, none⟩ = some (.int .i64 (gt s k).rows) ∧ W.cell? ⟨bA, off + k * 9 + 6, none⟩ = some (.int .i64 (gt s k).size) ∧ W.cell? ⟨bA, off + k * 9 + 7, none⟩ = some (.int .u32 (gt s k).sum) ∧ W.cell? ⟨bA, off + k * 9 + 8, none⟩ = some (.int .i64 (gt s k).born)) := Lib.hid fun W hW => HCb.out W hW k hkl
              have hTG := fun W => together_calls a (gt s k) small most hm0 hm1 ha0 (by omega) W
              have HQ2 : Hid (refPick small most s = (if togB small most a (gt s k) = true then some ((s.drop (k + 1)).foldl (rstp small most a) (a.rows + (gt s k).rows, [a.key, (gt s k).key])).2 else refRow small most a (s.drop (k + 1))).getD (refPick small most (s.drop (i + 1)))) := Lib.hid (by rw [HQ.out, hdb]; rfl)
              unfold entA at hTG
              clear hdb
              generalize gt s k = b at *
              obtain ⟨hb0, hb1⟩ := hrb
              have HB3 := Lib.hid hb3
              have Hkeep : Hid (∀ W, Below w3.heap.size w3 W → (W.cell? ⟨bA, off + i * 9, none⟩ = some (.string a.key) ∧ W.cell? ⟨bA, off + i * 9 + 1, none⟩ = some (.int .i64 a.window) ∧ W.cell? ⟨bA, off + i * 9 + 2, none⟩ = some (.string a.part) ∧ W.cell? ⟨bA, off + i * 9 + 3, none⟩ = some (.int .i64 a.first) ∧ W.cell? ⟨bA, off + i * 9 + 4, none⟩ = some (.int .i64 a.last) ∧ W.cell? ⟨bA, off + i * 9 + 5, none⟩ = some (.int .i64 a.rows) ∧ W.cell? ⟨bA, off + i * 9 + 6, none⟩ = some (.int .i64 a.size) ∧ W.cell? ⟨bA, off + i * 9 + 7, none⟩ = some (.int .u32 a.sum) ∧ W.cell? ⟨bA, off + i * 9 + 8, none⟩ = some (.int .i64 a.born)) ∧ W.cell? ⟨bA, off + k * 9, none⟩ = some (.string b.key) ∧ W.cell? ⟨bA, off + k * 9 + 1, none⟩ = some (.int .i64 b.window) ∧ W.cell? ⟨bA, off + k * 9 + 2, none⟩ = some (.string b.part) ∧ W.cell? ⟨bA, off + k * 9 + 3, none⟩ = some (.int .i64 b.first) ∧ W.cell? ⟨bA, off + k * 9 + 4, none⟩ = some (.int .i64 b.last) ∧ W.cell? ⟨bA, off + k * 9 + 5, none⟩ = some (.int .i64 b.rows) ∧ W.cell? ⟨bA, off + k * 9 + 6, none⟩ = some (.int .i64 b.size) ∧ W.cell? ⟨bA, off + k * 9 + 7, none⟩ = some (.int .u32 b.sum) ∧ W.cell? ⟨bA, off + k * 9 + 8, none⟩ = some (.int .i64 b.born)) := Lib.hid fun W hW => ⟨HCa.out W (HB3.out.trans (hW.mono hs3)), HCk.out W (HB3.out.trans (hW.mono hs3))⟩
              obtain ⟨⟨p0, p1, p2, p3, p4, p5, p6, p7, p8⟩, q0, q1, q2, q3, q4, q5, q6, q7, q8⟩ := Hkeep.out w3 (Below.refl _ _)
              have n0 : (0 : Int) ≤ (i : Int) := by omega
              have n1 : (i : Int) < (N : Int) := by omega
              have n2 : (0 : Int) ≤ (k : Int) := by omega
              have n3 : (k : Int) < (N : Int) := by omega
              clear hb3
              cases htg : togB small most a b
              · rw [htg] at hTG HQ2
                have HTG := Lib.hid hTG
                have HQ3 : Hid (refPick small most s = (refRow small most a (s.drop (k + 1))).getD (refPick small most (s.drop (i + 1)))) := Lib.hid (by have := HQ2.out; rwa [if_neg (by decide)] at this)
                clear hTG htg HQ2
                go_wp2_with fail
                go_region_held3 (fun w' => (w'.cell? ⟨bA, off + i * 9, none⟩ = some (.string a.key) ∧ w'.cell? ⟨bA, off + i * 9 + 1, none⟩ = some (.int .i64 a.window) ∧ w'.cell? ⟨bA, off + i * 9 + 2, none⟩ = some (.string a.part) ∧ w'.cell? ⟨bA, off + i * 9 + 3, none⟩ = some (.int .i64 a.first) ∧ w'.cell? ⟨bA, off + i * 9 + 4, none⟩ = some (.int .i64 a.last) ∧ w'.cell? ⟨bA, off + i * 9 + 5, none⟩ = some (.int .i64 a.rows) ∧ w'.cell? ⟨bA, off + i * 9 + 6, none⟩ = some (.int .i64 a.size) ∧ w'.cell? ⟨bA, off + i * 9 + 7, none⟩ = some (.int .u32 a.sum) ∧ w'.cell? ⟨bA, off + i * 9 + 8, none⟩ = some (.int .i64 a.born)) ∧ w'.cell? ⟨bA, off + k * 9, none⟩ = some (.string b.key) ∧ w'.cell? ⟨bA, off + k * 9 + 1, none⟩ = some (.int .i64 b.window) ∧ w'.cell? ⟨bA, off + k * 9 + 2, none⟩ = some (.string b.part) ∧ w'.cell? ⟨bA, off + k * 9 + 3, none⟩ = some (.int .i64 b.first) ∧ w'.cell? ⟨bA, off + k * 9 + 4, none⟩ = some (.int .i64 b.last) ∧ w'.cell? ⟨bA, off + k * 9 + 5, none⟩ = some (.int .i64 b.rows) ∧ w'.cell? ⟨bA, off + k * 9 + 6, none⟩ = some (.int .i64 b.size) ∧ w'.cell? ⟨bA, off + k * 9 + 7, none⟩ = some (.int .u32 b.sum) ∧ w'.cell? ⟨bA, off + k * 9 + 8, none⟩ = some (.int .i64 b.born)) (exact Hkeep.out _ (by first | assumption | exact below_drewN_ (Below.refl _ _) 1)) ((go_at_call 14; refine (HTG.out _).mono ?_; rintro e w5 ⟨rfl, hb5⟩; have he5 : Below w3.heap.size w3 w5 := (below_drewN_ (Below.refl _ _) 1).trans hb5))
                go_wp2
                go_roundw
                case rel => exact ⟨k + 1, by omega, by omega, by go_num, HQ3, HB3.out.trans (he5.mono hs3)⟩
                case measure => simp [intOf]; omega
              · rw [htg] at hTG HQ2
                have HTG := Lib.hid hTG
                have HQ3 : Hid (refPick small most s = ((s.drop (k + 1)).foldl (rstp small most a) (a.rows + b.rows, [a.key, b.key])).2) := Lib.hid (by have := HQ2.out; rwa [if_pos rfl] at this)
                have hle : a.rows + b.rows ≤ most := by have := of_decide_eq_true htg; unfold togP at this; omega
                clear hTG htg HQ2
                go_wp2_with fail
                go_region_held3 (fun w' => (w'.cell? ⟨bA, off + i * 9, none⟩ = some (.string a.key) ∧ w'.cell? ⟨bA, off + i * 9 + 1, none⟩ = some (.int .i64 a.window) ∧ w'.cell? ⟨bA, off + i * 9 + 2, none⟩ = some (.string a.part) ∧ w'.cell? ⟨bA, off + i * 9 + 3, none⟩ = some (.int .i64 a.first) ∧ w'.cell? ⟨bA, off + i * 9 + 4, none⟩ = some (.int .i64 a.last) ∧ w'.cell? ⟨bA, off + i * 9 + 5, none⟩ = some (.int .i64 a.rows) ∧ w'.cell? ⟨bA, off + i * 9 + 6, none⟩ = some (.int .i64 a.size) ∧ w'.cell? ⟨bA, off + i * 9 + 7, none⟩ = some (.int .u32 a.sum) ∧ w'.cell? ⟨bA, off + i * 9 + 8, none⟩ = some (.int .i64 a.born)) ∧ w'.cell? ⟨bA, off + k * 9, none⟩ = some (.string b.key) ∧ w'.cell? ⟨bA, off + k * 9 + 1, none⟩ = some (.int .i64 b.window) ∧ w'.cell? ⟨bA, off + k * 9 + 2, none⟩ = some (.string b.part) ∧ w'.cell? ⟨bA, off + k * 9 + 3, none⟩ = some (.int .i64 b.first) ∧ w'.cell? ⟨bA, off + k * 9 + 4, none⟩ = some (.int .i64 b.last) ∧ w'.cell? ⟨bA, off + k * 9 + 5, none⟩ = some (.int .i64 b.rows) ∧ w'.cell? ⟨bA, off + k * 9 + 6, none⟩ = some (.int .i64 b.size) ∧ w'.cell? ⟨bA, off + k * 9 + 7, none⟩ = some (.int .u32 b.sum) ∧ w'.cell? ⟨bA, off + k * 9 + 8, none⟩ = some (.int .i64 b.born)) (exact Hkeep.out _ (by first | assumption | exact below_drewN_ (Below.refl _ _) 1)) ((go_at_call 14; refine (HTG.out _).mono ?_; rintro e w5 ⟨rfl, hb5⟩; have he5 : Below w3.heap.size w3 w5 := (below_drewN_ (Below.refl _ _) 1).trans hb5))
                have hs5 := he5.size
                have HB5 := Lib.hid (HB3.out.trans (he5.mono hs3))
                have Hkeep2 : Hid (∀ W, Below w5.heap.size w5 W → W.cell? ⟨bA, off + i * 9, none⟩ = some (.string a.key) ∧ W.cell? ⟨bA, off + k * 9, none⟩ = some (.string b.key)) := Lib.hid fun W hW => ⟨(HCa.out W (HB5.out.trans (hW.mono (by omega)))).1, (HCk.out W (HB5.out.trans (hW.mono (by omega)))).1⟩
                obtain ⟨⟨p0, p1, p2, p3, p4, p5, p6, p7, p8⟩, q0, q1, q2, q3, q4, q5, q6, q7, q8⟩ := Hkeep.out w5 he5
                go_wp2_with fail
                go_region_held3 (fun w' => w'.cell? ⟨bA, off + i * 9, none⟩ = some (.string a.key) ∧ w'.cell? ⟨bA, off + k * 9, none⟩ = some (.string b.key)) (exact Hkeep2.out _ (by first | assumption | exact below_drewN_ (Below.refl _ _) 1 | exact Below.alloc (below_drewN_ (Below.refl _ _) 1) (Nat.le_refl _) _)) (fail)
                go_wp2_with fail
                have hb56 : Below w5.heap.size w5 (w5.alloc (.cells #[.string a.key, .string b.key] 9)).drew := ((Below.refl _ _).alloc (Nat.le_refl _) _).drew
                have HO6 : Hid ((w5.alloc (.cells #[.string a.key, .string b.key] 9)).drew.ownsRow w5.heap.size 9 1 (.slice (some ⟨w5.heap.size, 0, none⟩) 2 2) 2 ([a.key, b.key].map .string)) := Lib.hid (own_new w5 9 #[.string a.key, .string b.key] 1 2 (base := w5.heap.size) (Nat.le_refl _) (by unfold maxLen; omega) rfl)
                have hs6 : (w5.alloc (.cells #[.string a.key, .string b.key] 9)).drew.heap.size = w5.heap.size + 1 := by simp
                have HB6 := Lib.hid (HB5.out.trans (hb56.mono (by omega)))
                have hs6' := hb56.size
                clear hb56 hs6
                generalize (w5.alloc (.cells #[.string a.key, .string b.key] 9)).drew = w6 at *
                have hpa := (HCa.out w6 HB6.out).2.2.2.2.2.1
                have hqb := (HCk.out w6 HB6.out).2.2.2.2.2.1
                have i6 : IntKind.i64.wrap (a.rows + b.rows) = a.rows + b.rows := IntWalk.i64_in _ (by omega)
                go_quiet (fail)
                clear i6
                go_wp2
                have HF : Hid (∃ ks, ks.length = 2 ∧ refPick small most s = ((s.drop (k + 1)).foldl (rstp small most a) (a.rows + b.rows, ks)).2 ∧ (w6.drewN nq).ownsRow w5.heap.size 9 1 (.slice (some ⟨w5.heap.size, 0, none⟩) 2 2) 2 (ks.map .string)) := Lib.hid ⟨[a.key, b.key], rfl, HQ3.out, own_drewN HO6.out _⟩
                have hr0 : 0 ≤ a.rows + b.rows := by omega
                generalize hrb : a.rows + b.rows = rb at *
                clear hrb
                go_loopw [14, 15, 16] (fun vk vr vj wx => ∃ (j kn : Nat) (rw_ : Int) (A6 : Option Addr) (c6 : Nat), k + 1 ≤ j ∧ j ≤ N ∧ kn ≤ j + 1 ∧ 0 ≤ rw_ ∧ rw_ ≤ most ∧ vj = .int .i64 (j : Int) ∧ vr = .int .i64 rw_ ∧ vk = .slice A6 kn c6 ∧ Hid (∃ ks, ks.length = kn ∧ refPick small most s = ((s.drop j).foldl (rstp small most a) (rw_, ks)).2 ∧ wx.ownsRow w5.heap.size 9 1 (.slice A6 kn c6) kn (ks.map .string)) ∧ Below wo.heap.size wo wx ∧ w5.heap.size ≤ wx.heap.size) (fun _ _ vj _ => N - (intOf vj).toNat)
                case atStart => exact ⟨k + 1, 2, rb, _, 2, Nat.le_refl _, by omega, by omega, hr0, hle, by go_num, rfl, rfl, HF, below_drewN_ HB6.out _, hs6'⟩
                case round =>
                  obtain ⟨j, kn, rw_, A6, c6, hkj, hjN, hknj, hr0', hr1', rfl, rfl, rfl, HK, hb7, hs57⟩ := hrel
                  have hs7 := hb7.size
                  obtain ⟨ks, HKS⟩ : ∃ ks, Hid (ks.length = kn ∧ refPick small most s = ((s.drop j).foldl (rstp small most a) (rw_, ks)).2 ∧ wr.ownsRow w5.heap.size 9 1 (.slice A6 kn c6) kn (ks.map .string)) := by
                    obtain ⟨ks, hks⟩ := HK.out
                    exact ⟨ks, Lib.hid hks⟩
                  clear HK
                  by_cases hjl : j < N
                  · have hdx : s.drop j = gt s j :: s.drop (j + 1) := by rw [List.drop_eq_getElem_cons (by rw [HLn.out]; omega), gt_eq]
                    have hrx := HRS.out _ (show gt s j ∈ s by rw [← gt_eq (by rw [HLn.out]; omega)]; exact List.getElem_mem _)
                    obtain ⟨q0, q1, q2, q3, q4, q5, q6, q7, q8⟩ := HCb.out wr hb7 j hjl
                    obtain ⟨p0, p1, p2, p3, p4, p5, p6, p7, p8⟩ := HCa.out wr hb7
                    have HF2 : Hid (refPick small most s = ((s.drop (j + 1)).foldl (rstp small most a) (rstp small most a (rw_, ks) (gt s j))).2) := Lib.hid (by rw [HKS.out.2.1, hdx]; rfl)
                    clear hdx
                    generalize gt s j = x at *
                    obtain ⟨hx0, hx1⟩ := hrx
                    have HB7 := Lib.hid hb7
                    have hbAr : bA < wr.heap.size := by omega
                    have n4 : (0 : Int) ≤ (j : Int) := by omega
                    have n5 : (j : Int) < (N : Int) := by omega
                    have HNO : Hid (¬ (x.window = a.window ∧ x.part = a.part ∧ x.rows < small ∧ x.rows ≤ most - rw_) → ∀ wy, Below wr.heap.size wr wy → ∃ ks, ks.length = kn ∧ refPick small most s = ((s.drop (j + 1)).foldl (rstp small most a) (rw_, ks)).2 ∧ wy.ownsRow w5.heap.size 9 1 (.slice A6 kn c6) kn (ks.map .string)) := Lib.hid fun hno wy hw => ⟨ks, HKS.out.1, by rw [HF2.out]; unfold rstp; rw [if_neg hno], own_below HKS.out.2.2 hw⟩
                    clear hb7
                    have i7 : IntKind.i64.wrap (most - rw_) = most - rw_ := IntWalk.i64_in _ (by omega)
                    by_cases e1 : x.window = a.window
                    · by_cases e2 : x.part = a.part
                      · by_cases e3 : x.rows < small
                        · by_cases e4 : x.rows ≤ most - rw_
                          · have t1 : (x.window == a.window) = true := eqt e1
                            have t2 : (x.part.toList == a.part.toList) = true := by rw [bytes_eqm]; exact dct e2
                            have t3 : decide (x.rows < small) = true := dct e3
                            have t4 : decide (x.rows ≤ most - rw_) = true := dct e4
                            have HF3 : Hid (refPick small most s = ((s.drop (j + 1)).foldl (rstp small most a) (rw_ + x.rows, ks ++ [x.key])).2) := Lib.hid (by rw [HF2.out, show rstp small most a (rw_, ks) x = (rw_ + x.rows, ks ++ [x.key]) from if_pos ⟨e1, e2, e3, e4⟩])
                            clear e1 e2 e3 HNO
                            go_wp2_with fail
                            go_quiet (fail)
                            clear i7
                            have hb78 : Below wr.heap.size wr ((wr.alloc (.cells #[.string x.key, .int .i64 x.window, .string x.part, .int .i64 x.first, .int .i64 x.last, .int .i64 x.rows, .int .i64 x.size, .int .u32 x.sum, .int .i64 x.born] 29)).drewN nq) := below_drewN_ ((Below.refl _ _).alloc (Nat.le_refl _) _) _
                            have hbk8 : Blk ((wr.alloc (.cells #[.string x.key, .int .i64 x.window, .string x.part, .int .i64 x.first, .int .i64 x.last, .int .i64 x.rows, .int .i64 x.size, .int .u32 x.sum, .int .i64 x.born] 29)).drewN nq) wr.heap.size 29 #[.string x.key, .int .i64 x.window, .string x.part, .int .i64 x.first, .int .i64 x.last, .int .i64 x.rows, .int .i64 x.size, .int .u32 x.sum, .int .i64 x.born] := (Blk.new _ _ _).drewN _
                            have hs8 : wr.heap.size < ((wr.alloc (.cells #[.string x.key, .int .i64 x.window, .string x.part, .int .i64 x.first, .int .i64 x.last, .int .i64 x.rows, .int .i64 x.size, .int .u32 x.sum, .int .i64 x.born] 29)).drewN nq).heap.size := by simp
                            generalize (wr.alloc (.cells #[.string x.key, .int .i64 x.window, .string x.part, .int .i64 x.first, .int .i64 x.last, .int .i64 x.rows, .int .i64 x.size, .int .u32 x.sum, .int .i64 x.born] 29)).drewN nq = w8 at *
                            obtain ⟨z0, z1, z2, z3, z4, z5, z6, z7, z8⟩ := Blk.nine hbk8
                            have HO8 := Lib.hid (own_below HKS.out.2.2 hb78)
                            have HB8 := Lib.hid (HB7.out.trans (hb78.mono hs7))
                            have HBK8 := Lib.hid hbk8
                            clear hb78 hbk8
                            go_wp2_with (at_builtin; go_must (refine wpList_append_sl _ rfl (.tmp 146) (.tmp 149) _ rfl w5.heap.size 9 _ 1 16 Try.underlying25 Try.infoStr rfl (by omega) _ _ _ rfl (HO8.out.alloc _) (w8.heap.size + 1) _ 1 1 [.string x.key] rfl (Reads.made (n := 1) (size := 1) w8 _ _ rfl) (by simp [Value.oneCell']) (by unfold maxLen; omega) (by omega) (by simp; omega) ?_))
                            intro A9 c9 w9 hc91 hc92 hrd9 hbel9 hown9 hg9 _
                            have HO9 := Lib.hid (push_key w9 x.key hown9)
                            have hb89 : Below w5.heap.size w8 w9 := ((Below.refl _ _).alloc (by omega) _).trans hbel9
                            have hbk9 : Blk w9 wr.heap.size 29 #[.string x.key, .int .i64 x.window, .string x.part, .int .i64 x.first, .int .i64 x.last, .int .i64 x.rows, .int .i64 x.size, .int .u32 x.sum, .int .i64 x.born] := (HBK8.out.alloc _).grown hg9 (fun e => by
                              have := (HKS.out.2.2.lt _ e.symm).2
                              omega)
                            obtain ⟨z0, z1, z2, z3, z4, z5, z6, z7, z8⟩ := Blk.nine hbk9
                            have HB9 := Lib.hid (HB8.out.trans (hb89.mono (by omega)))
                            have hs9 := hb89.size
                            clear hown9 hrd9 hbel9 hb89 hbk9 hg9
                            go_wp2
                            go_roundw
                            case rel => exact ⟨j + 1, kn + 1, rw_ + x.rows, A9, c9, by omega, by omega, by omega, by omega, by omega, by go_num, rfl, rfl, Lib.hid ⟨ks ++ [x.key], by rw [List.length_append, HKS.out.1]; rfl, HF3.out, HO9.out⟩, HB9.out, by omega⟩
                            case measure => simp [intOf]; omega
                          · have t1 : (x.window == a.window) = true := eqt e1
                            have t2 : (x.part.toList == a.part.toList) = true := by rw [bytes_eqm]; exact dct e2
                            have t3 : decide (x.rows < small) = true := dct e3
                            have t4 : decide (x.rows ≤ most - rw_) = false := dcf e4
                            have HF3 := Lib.hid (HNO.out fun h => e4 h.2.2.2)
                            clear e1 e2 e3 e4 HNO
                            go_wp2_with fail
                            go_quiet (fail)
                            clear i7
                            go_wp2
                            go_roundw
                            case rel => exact ⟨j + 1, kn, rw_, A6, c6, by omega, by omega, by omega, hr0', hr1', by go_num, rfl, rfl, Lib.hid (HF3.out _ (below_drewN_ ((Below.refl _ _).alloc (Nat.le_refl _) _) _)), below_drewN_ (HB7.out.alloc hs7 _) _, by simp; omega⟩
                            case measure => simp [intOf]; omega
                        · have t1 : (x.window == a.window) = true := eqt e1
                          have t2 : (x.part.toList == a.part.toList) = true := by rw [bytes_eqm]; exact dct e2
                          have t3 : decide (x.rows < small) = false := dcf e3
                          have HF3 := Lib.hid (HNO.out fun h => e3 h.2.2.1)
                          clear e1 e2 e3 HNO
                          go_wp2_with fail
                          go_quiet (fail)
                          clear i7
                          go_wp2
                          go_roundw
                          case rel => exact ⟨j + 1, kn, rw_, A6, c6, by omega, by omega, by omega, hr0', hr1', by go_num, rfl, rfl, Lib.hid (HF3.out _ (below_drewN_ ((Below.refl _ _).alloc (Nat.le_refl _) _) _)), below_drewN_ (HB7.out.alloc hs7 _) _, by simp; omega⟩
                          case measure => simp [intOf]; omega
                      · have t1 : (x.window == a.window) = true := eqt e1
                        have t2 : (x.part.toList == a.part.toList) = false := by rw [bytes_eqm]; exact dcf e2
                        have HF3 := Lib.hid (HNO.out fun h => e2 h.2.1)
                        clear e1 e2 HNO
                        go_wp2_with fail
                        go_quiet (fail)
                        clear i7
                        go_wp2
                        go_roundw
                        case rel => exact ⟨j + 1, kn, rw_, A6, c6, by omega, by omega, by omega, hr0', hr1', by go_num, rfl, rfl, Lib.hid (HF3.out _ (below_drewN_ ((Below.refl _ _).alloc (Nat.le_refl _) _) _)), below_drewN_ (HB7.out.alloc hs7 _) _, by simp; omega⟩
                        case measure => simp [intOf]; omega
                    · have t1 : (x.window == a.window) = false := eqf e1
                      have HF3 := Lib.hid (HNO.out fun h => e1 h.1)
                      clear e1 HNO
                      go_wp2_with fail
                      go_quiet (fail)
                      clear i7
                      go_wp2
                      go_roundw
                      case rel => exact ⟨j + 1, kn, rw_, A6, c6, by omega, by omega, by omega, hr0', hr1', by go_num, rfl, rfl, Lib.hid (HF3.out _ (below_drewN_ ((Below.refl _ _).alloc (Nat.le_refl _) _) _)), below_drewN_ (HB7.out.alloc hs7 _) _, by simp; omega⟩
                      case measure => simp [intOf]; omega
                  · obtain rfl : j = N := by omega
                    have HV : Hid (refPick small most s = ks) := Lib.hid (by rw [HKS.out.2.1, List.drop_of_length_le (by rw [HLn.out]; exact Nat.le_refl _)]; rfl)
                    go_wp2
                    go_ret
                    exact ⟨A6, c6, by rw [HV.out, HKS.out.1]; rfl, by rw [HV.out, HKS.out.1]; exact own_base HKS.out.2.2 (by omega), HBEL.out.trans (hb7.mono hsz)⟩
            · obtain rfl : k = N := by omega
              have HP3 : Hid (refPick small most s = refPick small most (s.drop (i + 1))) := Lib.hid (by rw [HQ.out, List.drop_of_length_le (by rw [HLn.out]; exact Nat.le_refl _)]; rfl)
              go_wp2
              go_roundw
              case rel => exact ⟨i + 1, by omega, by go_num, HP3, hb3⟩
              case measure => simp [intOf]; omega
        · obtain rfl : i = N := by omega
          have HV : Hid (refPick small most s = []) := Lib.hid (by rw [HP.out, List.drop_of_length_le (by rw [HLn.out]; exact Nat.le_refl _)]; rfl)
          go_wp2
          go_ret
          exact ⟨none, 0, by rw [HV.out]; rfl, by rw [HV.out]; exact World.ownsRow_nil _ _ _ _, HBEL.out.trans (hb2.mono hsz)⟩
end Go.Proofs.Ytophfgijfmdbcaa
