/- Entries in a map: what DeleteFunc leaves, sorted keys; clones of marks and owners; results in cells (chapter 13). -/
import Derived.Test.YtjbmlhipjceeeaaGreatProg
import Derived.Test.YtjbmlhipjceeeaaGreatMfP
import Derived.Test.YtjbmlhipjceeeaaGreatPut
import Derived.Test.YtjbmlhipjceeeaaGreatIter
namespace Go.Proofs.YtjbmlhipjceeeaaGreat.Mf
set_option linter.unusedVariables false
set_option linter.unusedSimpArgs false
open Go.RowKit Go.Proofs.YtjbmlhipjceeeaaGreat Go.Sort Go.Shelf

/-! ### delete under a range -/
section
variable {P : Program} {k : TypeId} {κ β : Type} [DecidableEq κ] {K : KeyT P k κ} {ev : β → Value} {w w' : World} {b r : Nat} {l todo : List (κ × β)} {t e : TypeId} {x : κ}
theorem RangeAt.drop_run (h : RangeAt K ev w b r l todo) (ht : P.underlying t = some (.map k e)) (hx : K.ok x) (hnt : ∀ p ∈ todo, p.1 ≠ x) (ty : TypeId) :
    ∃ w', (Builtin.delete_ #[t, k] ty #[.map (some b), K.val x]).run P w = .ok (.tuple #[]) w' ∧ RangeAt K ev w' b r (mdel l x) todo ∧ w.grownBy w' (some b) ∧ w'.heap.size = w.heap.size := by
  obtain ⟨left, hr, rfl, hok⟩ := h
  obtain ⟨w', cnt', hrun, r1, r2, r3⟩ := hr.drop K.keyed ht (K.key hx) ty
  rw [enc_del] at r1
  have hc := ranges_cnt r1
  have e1 : (mdel l x).filter (fun p => left (K.lit p.1) && !(K.lit p.1).sameKey (K.lit x)) = l.filter fun p => left (K.lit p.1) := by
    unfold mdel
    rw [List.filter_filter]
    refine List.filter_congr fun p hp => ?_
    rw [lit_sameKey]
    cases hl : left (K.lit p.1)
    · simp
    · have : p.1 ≠ x := hnt p (List.mem_filter.2 ⟨hp, hl⟩)
      simp [this]
  rw [List.filter_map, List.length_map] at hc
  have hc2 : cnt' = (l.filter fun p => left (K.lit p.1)).length := by rw [hc, ← e1]; rfl
  refine ⟨w', hrun, ⟨fun z => left z && !z.sameKey (K.lit x), ?_, e1.symm, fun p hp => hok p (List.mem_filter.1 hp).1⟩, r3.grown, ?_⟩
  · rw [← hc2]
    obtain ⟨es, clock, since, seen, c0, hb, F, hs, hD, rest⟩ := r1
    refine ⟨es, clock, since, seen, c0, hb, F, ?_, hD, rest⟩
    injection hD with hD
    rw [← List.length_map (f := encE K ev), hD, length_sorted]
    simp
  · obtain ⟨es, clock, es', clock', hb, rfl⟩ := r3
    simp [ChangeMaps.setBlock]
end
theorem pw_one {l : List (ByteArray × En)} (hn : l.Pairwise fun p q => p.1 ≠ q.1) {p q : ByteArray × En} (hp : p ∈ l) (hq : q ∈ l) (h : p.1 = q.1) : p = q := by
  obtain ⟨i, hi, rfl⟩ := List.getElem_of_mem hp
  obtain ⟨j, hj, rfl⟩ := List.getElem_of_mem hq
  rw [List.pairwise_iff_getElem] at hn
  rcases Nat.lt_trichotomy i j with c | c | c
  · exact absurd h (hn i j hi hj c)
  · subst c; rfl
  · exact absurd h.symm (hn j i hj hi c)
theorem enV_inj {x y : En} (h : enV x = enV y) : x = y := by
  obtain ⟨a0, a1, a2, a3, a4, a5, a6, a7, a8⟩ := x
  obtain ⟨b0, b1, b2, b3, b4, b5, b6, b7, b8⟩ := y
  injection h with h
  have h := congrArg Array.toList h
  simp at h
  obtain ⟨h0, h1, h2, h3, h4, h5, h6, h7, h8⟩ := h
  subst h0 h1 h2 h3 h4 h5 h6 h7 h8
  rfl
theorem old_calls (s : ByteArray) (x : En) (w : World) {gm : Nat} {cut : Int} (hc : w.cell? ⟨gm, 1, none⟩ = some (.int .i64 cut)) : Calls Tryz.prog 27 #[.string s, enV x, .pointer (some ⟨gm, 0, none⟩)] w fun e w' => e = .returned (.bool (decide (x.window < cut))) ∧ w.grownBy w' none := by
  have hlt := World.block_lt_of_cell? w _ hc
  have hc2 : (w.alloc (.cells #[.string x.key, .int .i64 x.window, .string x.part, .int .i64 x.first, .int .i64 x.last, .int .i64 x.rows, .int .i64 x.size, .int .u32 x.sum, .int .i64 x.born] 42)).cell? ⟨gm, 1, none⟩ = some (.int .i64 cut) := (World.cell?_alloc_lt w _ _ hlt).trans hc
  go_enter Tryz.func27, Tryz.ntmps27
  go_wp2
  go_ret
  exact ⟨rfl, below_grown ((Below.refl _ _).alloc (Nat.le_refl _) _) _⟩
theorem cut_keep {l todo : List (ByteArray × En)} {q : ByteArray × En → Bool} {x : ByteArray} {y : En} (hn : l.Pairwise fun p q => p.1 ≠ q.1) (hm : (x, y) ∈ l) (hq : q (x, y) = true) :
    (l.filter fun p => q p || decide (∃ z ∈ todo, z.1 = p.1)) = l.filter fun p => q p || decide (∃ z ∈ mdel todo x, z.1 = p.1) := by
  refine List.filter_congr fun p hp => ?_
  by_cases e : p.1 = x
  · have : p = (x, y) := pw_one hn hp hm e
    rw [this, hq]; rfl
  · congr 1
    refine decide_eq_decide.2 ⟨?_, ?_⟩
    · rintro ⟨z, hz, he⟩
      exact ⟨z, List.mem_filter.2 ⟨hz, by rw [he]; simpa using e⟩, he⟩
    · rintro ⟨z, hz, he⟩
      exact ⟨z, (List.mem_filter.1 hz).1, he⟩
theorem cut_drop {l todo : List (ByteArray × En)} {q : ByteArray × En → Bool} {x : ByteArray} {y : En} (hn : l.Pairwise fun p q => p.1 ≠ q.1) (hm : (x, y) ∈ l) (hq : q (x, y) = false) :
    mdel (l.filter fun p => q p || decide (∃ z ∈ todo, z.1 = p.1)) x = l.filter fun p => q p || decide (∃ z ∈ mdel todo x, z.1 = p.1) := by
  unfold mdel
  rw [List.filter_filter]
  refine List.filter_congr fun p hp => ?_
  by_cases e : p.1 = x
  · have : p = (x, y) := pw_one hn hp hm e
    rw [this, hq]
    have h2 : ¬ ∃ z ∈ todo.filter (fun p => decide (p.1 ≠ x)), z.1 = (x, y).1 := by
      rintro ⟨z, hz, he⟩
      have := (List.mem_filter.1 hz).2
      simp at this
      exact this he
    rw [dcf h2]
    simp
  · have e2 : decide (p.1 ≠ x) = true := by simpa using e
    rw [e2, Bool.true_and]
    congr 1
    refine decide_eq_decide.2 ⟨?_, ?_⟩
    · rintro ⟨z, hz, he⟩
      exact ⟨z, List.mem_filter.2 ⟨hz, by rw [he]; simpa using e⟩, he⟩
    · rintro ⟨z, hz, he⟩
      exact ⟨z, (List.mem_filter.1 hz).1, he⟩
set_option maxRecDepth 100000 in
set_option maxHeartbeats 1600000 in
theorem cutM_calls (w : World) {gm b : Nat} {cut : Int} {l : List (ByteArray × En)} (h : MapAt kS enV w b l) (hc : w.cell? ⟨gm, 1, none⟩ = some (.int .i64 cut)) (hne : gm ≠ b) :
    Calls Tryz.prog 26 #[.map (some b), .func (.func 27) #[] #[.pointer (some ⟨gm, 0, none⟩)]] w fun e w' => e = .returned (.tuple #[]) ∧ MapAt kS enV w' b (l.filter fun p => !decide (p.2.window < cut)) ∧ w.grownBy w' (some b) := by
  have hgm := World.block_lt_of_cell? w _ hc
  have HM := Lib.hid h
  have HN := Lib.hid h.nodup
  have HU := Lib.hid Tryz.underlying58
  have eg : ∀ args w, (callFunc 27 args).run Tryz.prog w = .ok (.enter 27 args) w := enters_of Tryz.func27 (by kernel_rfl) rfl
  have HC := Lib.hid hc
  have hbl := h.lt_
  have HRZ := Lib.hid (Nat.le_refl w.heap.size)
  have HGM := Lib.hid hgm
  clear h hc hgm
  go_enter Tryz.func26, Tryz.ntmps26
  go_wp2_with (at_range; go_must (refine wpList_range _ rfl _ rfl HM.out HU.out rfl ?_))
  intro w1 hr1 hg1 hs1
  have HR1 : Hid (∃ todo, RangeAt kS enV w1 b w.heap.size (l.filter fun p => !decide (p.2.window < cut) || decide (∃ z ∈ todo, z.1 = p.1)) todo ∧ todo.Sublist l) := Lib.hid ⟨l, by
    rw [List.filter_eq_self.2 fun p hp => by rw [dct (⟨p, hp, rfl⟩ : ∃ z ∈ l, z.1 = p.1), Bool.or_true]]
    exact hr1, List.Sublist.refl l⟩
  have HG1 : Hid (w.grownBy w1 (some b)) := Lib.hid (hg1.but _)
  clear hr1 hg1 hs1
  have hri : w.heap.size < w1.heap.size := HR1.out.elim fun _ h => h.1.lt
  have hbr : b ≠ w.heap.size := by omega
  generalize hr : w.heap.size = r at *
  have HRW := Lib.hid hr
  clear hr
  go_wp2
  go_loopw [8] (fun _ wr => ∃ todo, Hid (RangeAt kS enV wr b r (l.filter fun p => !decide (p.2.window < cut) || decide (∃ z ∈ todo, z.1 = p.1)) todo) ∧ Hid (w.grownBy wr (some b)) ∧ r < wr.heap.size) (fun _ wr => wr.rangeLeft b r)
  case atStart =>
    obtain ⟨todo, h1, h2⟩ := HR1.out
    exact ⟨todo, Lib.hid h1, HG1, hri⟩
  case round =>
    clear HR1 HG1 hri
    obtain ⟨todo, HR, HG, hri⟩ := hrel
    obtain ⟨wo, rfl⟩ : ∃ wo : World, wo = wr := ⟨_, rfl⟩
    have HLe := Lib.hid HR.out.left_eq
    go_wp2_with (at_next; go_must (refine wpList_next wo rfl _ rfl HR.out rfl ?_ ?_))
    · rintro rfl
      have HF : Hid (MapAt kS enV wo b (l.filter fun p => !decide (p.2.window < cut))) := Lib.hid (by
        have := HR.out.map
        simpa using this)
      go_wp2
      go_end0
      exact ⟨rfl, HF.out, HG.out⟩
    · intro x y w2 hm hr2 hlt hg2 hs2 hen
      have hml : (x, y) ∈ l := (List.mem_filter.1 (HR.out.sub.subset hm)).1
      have HOK : Hid (kS.ok x) := Lib.hid (HM.out.ok _ hml)
      have HG2 : Hid (w.grownBy w2 (some b)) := Lib.hid (HG.out.andThen hg2 (fun j hj => by cases hj; exact Or.inl (by rw [HRW.out]; exact Nat.le_refl _)))
      have hc2 : w2.cell? ⟨gm, 1, none⟩ = some (.int .i64 cut) := by
        rw [World.cell?_of_block (HG2.out.block gm (by rw [HRW.out]; exact HGM.out) (fun e => hne (by injection e)))]
        exact HC.out
      have HR2 := Lib.hid hr2
      have HLt := Lib.hid hlt
      have hri2 : r < w2.heap.size := by omega
      have hgm2 := World.block_lt_of_cell? w2 _ hc2
      have hc3 : (w2.alloc (.cells #[.string y.key, .int .i64 y.window, .string y.part, .int .i64 y.first, .int .i64 y.last, .int .i64 y.rows, .int .i64 y.size, .int .u32 y.sum, .int .i64 y.born] 42)).cell? ⟨gm, 1, none⟩ = some (.int .i64 cut) := (World.cell?_alloc_lt w2 _ _ hgm2).trans hc2
      have HCl := Lib.hid (old_calls x y (w2.alloc (.cells #[.string y.key, .int .i64 y.window, .string y.part, .int .i64 y.first, .int .i64 y.last, .int .i64 y.rows, .int .i64 y.size, .int .u32 y.sum, .int .i64 y.born] 42)) hc3)
      have hev : enV y = .agg #[.string y.key, .int .i64 y.window, .string y.part, .int .i64 y.first, .int .i64 y.last, .int .i64 y.rows, .int .i64 y.size, .int .u32 y.sum, .int .i64 y.born] := rfl
      rw [show kS.val x = .string x from rfl, hev] at hen
      rw [show kS.val x = .string x from rfl, hev]
      have HKp : Hid (decide (y.window < cut) = false → (l.filter fun p => !decide (p.2.window < cut) || decide (∃ z ∈ todo, z.1 = p.1)) = l.filter fun p => !decide (p.2.window < cut) || decide (∃ z ∈ mdel todo x, z.1 = p.1)) := Lib.hid fun h => cut_keep (q := fun p => !decide (p.2.window < cut)) HN.out hml (by show (!decide (y.window < cut)) = true; rw [h]; rfl)
      have HDp : Hid (decide (y.window < cut) = true → mdel (l.filter fun p => !decide (p.2.window < cut) || decide (∃ z ∈ todo, z.1 = p.1)) x = l.filter fun p => !decide (p.2.window < cut) || decide (∃ z ∈ mdel todo x, z.1 = p.1)) := Lib.hid fun h => cut_drop (q := fun p => !decide (p.2.window < cut)) HN.out hml (by show (!decide (y.window < cut)) = false; rw [h]; rfl)
      have hga : w2.grownBy (w2.alloc (.cells #[.string y.key, .int .i64 y.window, .string y.part, .int .i64 y.first, .int .i64 y.last, .int .i64 y.rows, .int .i64 y.size, .int .u32 y.sum, .int .i64 y.born] 42)) none := below_grown ((Below.refl w2.heap.size w2).alloc (Nat.le_refl _) _) _
      have HGA := Lib.hid hga
      clear hm hr2 hlt hg2 hs2 hml hc2 hc3 hgm2 hga hev
      go_wp2_with fail
      refine HCl.out.mono ?_
      rintro e w4 ⟨rfl, hg4⟩
      have hg24 : w2.grownBy w4 none := World.grownBy.trans HGA.out hg4
      have HR4 := Lib.hid (HR2.out.kept hg24 (by simp) (by simp))
      have HG4 : Hid (w.grownBy w4 (some b)) := Lib.hid (HG2.out.andThen hg24 (fun j hj => by cases hj))
      have hri4 : r < w4.heap.size := Nat.lt_of_lt_of_le hri2 hg24.size
      clear hg24 hg4 HG2 HR2 HCl HGA
      cases hd : decide (y.window < cut)
      · have HR5 := HR4
        rw [HKp.out hd] at HR5
        go_wp2
        go_roundw
        case rel => exact ⟨_, HR5, HG4, hri4⟩
        case measure => rw [HR5.out.left_eq, HLe.out]; exact HLt.out
      · obtain ⟨w5, hrun, hr5, hg5, hs5⟩ := RangeAt.drop_run HR4.out HU.out HOK.out mdel_ne 0
        rw [HDp.out hd] at hr5
        have HR5 := Lib.hid hr5
        have HG5 : Hid (w.grownBy w5 (some b)) := Lib.hid (HG4.out.andThen hg5 (fun j hj => by cases hj; exact Or.inr rfl))
        have hri5 : r < w5.heap.size := by omega
        have hrun2 : (Builtin.delete_ #[58, 9] 0 #[.map (some b), .string x]).run Tryz.prog w4 = .ok (.tuple #[]) w5 := hrun
        clear hrun hr5 hg5 hs5
        go_wp2
        go_roundw
        case rel => exact ⟨_, HR5, HG5, hri5⟩
        case measure => rw [HR5.out.left_eq, HLe.out]; exact HLt.out

/-! ### which entries a map holds -/
def MpIs (M : List (ByteArray × En)) (S : En → Prop) : Prop := ∀ k x, (k, x) ∈ M ↔ x.key = k ∧ S x
theorem MpIs.nil : MpIs [] fun _ => False := fun k x => by simp
theorem MpIs.imp {M : List (ByteArray × En)} {S S' : En → Prop} (h : MpIs M S) (e : ∀ x, S x ↔ S' x) : MpIs M S' := fun k x => by rw [h k x, e x]
theorem MpIs.put {M : List (ByteArray × En)} {S : En → Prop} (h : MpIs M S) (x : En) (hn : ∀ y, S y → y.key ≠ x.key) : MpIs (mput kS.lt M x.key x) fun y => S y ∨ y = x := fun k y => by
  rw [mput_mem, h k y]
  constructor
  · rintro (e | ⟨⟨e, hy⟩, _⟩)
    · injection e with e1 e2
      subst e1 e2
      exact ⟨rfl, .inr rfl⟩
    · exact ⟨e, .inl hy⟩
  · rintro ⟨e, hy | rfl⟩
    · exact .inr ⟨⟨e, hy⟩, fun e' => hn y hy (e.trans e')⟩
    · exact .inl (by rw [e])
theorem MpIs.del {M : List (ByteArray × En)} {S : En → Prop} (h : MpIs M S) (k : ByteArray) : MpIs (mdel M k) fun y => S y ∧ y.key ≠ k := fun k' y => by
  unfold mdel
  rw [List.mem_filter, h k' y]
  simp only [decide_eq_true_eq]
  constructor
  · rintro ⟨⟨e, hy⟩, hk⟩
    exact ⟨e, hy, by rw [e]; exact hk⟩
  · rintro ⟨e, hy, hk⟩
    exact ⟨⟨e, hy⟩, by rw [← e]; exact hk⟩
theorem MpIs.some_ {M : List (ByteArray × En)} {S : En → Prop} (h : MpIs M S) {k : ByteArray} {y : En} (hy : mget M k = some y) : y.key = k ∧ S y := (h k y).1 (mget_mem hy)
theorem MpIs.none_ {M : List (ByteArray × En)} {S : En → Prop} (h : MpIs M S) {k : ByteArray} (hn : mget M k = none) : ∀ y, S y → y.key ≠ k := fun y hy e => mget_none.1 hn (k, y) ((h k y).2 ⟨e, hy⟩) rfl
theorem MpIs.cut {M : List (ByteArray × En)} {S : En → Prop} (h : MpIs M S) (c : Int) : MpIs (M.filter fun p => !decide (p.2.window < c)) fun y => S y ∧ c ≤ y.window := fun k y => by
  rw [List.mem_filter, h k y]
  simp only [Bool.not_eq_true', decide_eq_false_iff_not, Int.not_lt]
  rw [and_assoc]
theorem MpIs.srt {M : List (ByteArray × En)} {S : En → Prop} (h : MpIs M S) (hs : M.Pairwise fun p q => ltS p.1 q.1 = true) : (M.map (·.2)).Pairwise fun a b => ltE a b = true := by
  rw [List.pairwise_map]
  refine hs.imp_of_mem fun {p q} hp hq hpq => ?_
  show ltS p.2.key q.2.key = true
  rw [((h p.1 p.2).1 hp).1, ((h q.1 q.2).1 hq).1]
  exact hpq
theorem MpIs.list {M : List (ByteArray × En)} {S : En → Prop} (h : MpIs M S) (hs : M.Pairwise fun p q => ltS p.1 q.1 = true) {L : List En} (hL : L.Pairwise fun a b => ltE a b = true) (hm : ∀ x, S x ↔ x ∈ L) : M.map (·.2) = L := by
  refine srt_eq ltE_irr ltE_trans (h.srt hs) hL fun x => ?_
  rw [← hm, List.mem_map]
  constructor
  · rintro ⟨p, hp, rfl⟩
    exact ((h p.1 p.2).1 hp).2
  · intro hx
    exact ⟨(x.key, x), (h _ _).2 ⟨rfl, hx⟩, rfl⟩
theorem mdel_le {M : List (ByteArray × En)} (k : ByteArray) : (mdel M k).length ≤ M.length := List.length_filter_le _ _
theorem mput_le {M : List (ByteArray × En)} (k : ByteArray) (x : En) : (mput kS.lt M k x).length ≤ M.length + 1 := by
  rw [mput_lenp]
  have := mdel_le (M := M) k
  omega
/-- The entries of a fine edit. -/
theorem ents_srt {m : Md} {d : Ed} (hm : m.E.Pairwise fun a b => ltE a b = true) (hd : (keys d.add).Nodup) (hx : ∀ x ∈ d.add, ∀ y ∈ m.E, y.key ∉ d.drop → y.key ≠ x.key) (hz : ∀ x ∈ m.E, x.key.size ≤ maxLen) (hz2 : ∀ x ∈ d.add, x.key.size ≤ maxLen) : (ents m d).Pairwise fun a b => ltE a b = true := by
  unfold ents
  refine entF_srt List.Pairwise.nil ?_ (fun x _ y hy => by cases hy) (fun x hx' => ?_) (fun x hx' => by cases hx')
  · rw [List.pairwise_append]
    refine ⟨?_, ?_, fun a ha b hb => ?_⟩
    · have := hd
      unfold keys at this
      rw [List.nodup_iff_pairwise_ne, List.pairwise_map] at this
      exact this
    · unfold kept
      refine (hm.filter _).imp fun {a b} h e => ?_
      unfold ltE at h
      rw [e, ltS_irr] at h
      cases h
    · unfold kept at hb
      obtain ⟨hb1, hb2⟩ := List.mem_filter.1 hb
      refine fun e => hx a ha b hb1 (fun hk => ?_) e.symm
      rw [has_mem.2 hk] at hb2
      cases hb2
  · rcases List.mem_append.1 hx' with h | h
    · exact hz2 x h
    · exact hz x (List.mem_filter.1 h).1
theorem ents_mem {m : Md} {d : Ed} {x : En} : x ∈ ents m d ↔ (x ∈ d.add ∨ (x ∈ m.E ∧ x.key ∉ d.drop)) ∧ cutOf m d ≤ x.window := by
  unfold ents kept
  rw [entF_mem, List.mem_append, List.mem_filter]
  have : (!hasB d.drop x.key) = true ↔ x.key ∉ d.drop := by
    rw [Bool.not_eq_true', ← Bool.not_eq_true, has_mem]
  rw [this]
  simp
end Go.Proofs.YtjbmlhipjceeeaaGreat.Mf
