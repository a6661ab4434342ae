/- Contracts of bay (chapter 15): Drain; the reference's Box; SameInts. -/
import Derived.Test.YtepfggfideianaaBayB
namespace Go.Proofs.Ytepfggfideianaa
open Go.RowKit Go.Conc

theorem Only.thenBelow {g B : Nat} {a w w' : World} (h : Only g a w) (hb : Below B w w') (hB : a.heap.size ≤ B) : Only g a w' :=
  ⟨hb.os.trans h.os, hb.tape.trans h.tape, hb.output.trans h.output, Nat.le_trans h.size hb.size, fun k hk hne => (hb.block k (by omega)).trans (h.block k hk hne)⟩
def lenV (v : Value) : Nat := match v with | .slice _ n _ => n | _ => 0

theorem drain_nil (w : World) : Calls Try.prog 14 #[.pointer none] w fun e w' => e = .returned (.slice none 0 0) ∧ w = w' := by
  go_enter Try.func14, Try.ntmps14
  go_wp2_with fail
  refine (take_nil w).mono ?_
  rintro e w' ⟨rfl, rfl⟩
  go_wp2
  go_loop [3, 4, 5] (fun out x ok => out = .slice none 0 0 ∧ ok = .bool false) (fun _ _ _ => 0)
  case atStart => exact ⟨rfl, rfl⟩
  case round =>
    obtain ⟨rfl, rfl⟩ := hrel
    go_wp2
    go_ret
    exact ⟨rfl, rfl⟩

/-- What has been taken, what is at hand, what is left. -/
def Drains (wr : World) (gc cap : Nat) (l : List Int) (k : Nat) (x ok : Value) : Prop :=
  (k < l.length ∧ x = .int .i64 (l.getD k 0) ∧ ok = .bool true ∧ Ch wr gc cap (l.drop (k + 1))) ∨ (k = l.length ∧ x = .int .i64 0 ∧ ok = .bool false ∧ Ch wr gc cap [])

/-- A Take of the list from the place k on. -/
theorem take_any (w : World) {gb gc cap k : Nat} {l : List Int} (hb : Blk w gb 64 #[.chan (some gc)]) (h : Ch w gc cap (l.drop k)) (hk : k ≤ l.length) :
    Calls Try.prog 11 #[.pointer (some ⟨gb, 0, none⟩)] w fun e w' => ∃ x ok, e = .returned (.tuple #[x, ok]) ∧ Drains w' gc cap l k x ok ∧ Only gc w w' := by
  by_cases hlt : k < l.length
  · rw [drop_getD hlt] at h
    refine (take_ok w hb h).mono ?_
    rintro e w' ⟨rfl, h1, h2⟩
    exact ⟨_, _, rfl, .inl ⟨hlt, rfl, rfl, h1⟩, h2⟩
  · rw [List.drop_eq_nil_of_le (by omega)] at h
    refine (take_empty w hb h).mono ?_
    rintro e w' ⟨rfl, rfl⟩
    exact ⟨_, _, rfl, .inr ⟨by omega, rfl, rfl, h⟩, Only.refl _ _⟩

set_option maxRecDepth 100000 in
set_option maxHeartbeats 800000 in
theorem drain_calls (w : World) {gb gc cap : Nat} {l : List Int} (hb : Blk w gb 64 #[.chan (some gc)]) (h : Ch w gc cap l) (hl : l.length ≤ 2048) :
    Calls Try.prog 14 #[.pointer (some ⟨gb, 0, none⟩)] w fun e w' => ∃ v, e = .returned v ∧ w'.ownsRow w.heap.size 3 1 v l.length (l.map (Value.int .i64)) ∧ Ch w' gc cap [] ∧ Only gc w w' := by
  have hgg := blk_ne_ch hb h
  have hgb := hb.lt
  have hgc := h.lt
  go_enter Try.func14, Try.ntmps14
  go_wp2_with fail
  refine (take_any (k := 0) w hb (by simpa using h) (by omega)).mono ?_
  rintro e w1 ⟨x1, ok1, rfl, hd1, ho1⟩
  have Hgg := Lib.hid hgg
  clear h hgg
  go_wp2
  go_loopw [3, 4, 5] (fun out x ok wr => ∃ k : Nat, k ≤ l.length ∧ wr.ownsRow w.heap.size 3 1 out (l.take k).length ((l.take k).map (Value.int .i64)) ∧ Drains wr gc cap l k x ok ∧ Only gc w wr) (fun out _ _ _ => l.length - lenV out)
  case atStart => exact ⟨0, by omega, World.ownsRow_nil _ _ _ _, hd1, ho1⟩
  case round =>
    obtain ⟨k, hk, hown, hd, ho⟩ := hrel
    rcases hd with ⟨hlt, rfl, rfl, hc⟩ | ⟨hkl, rfl, rfl, hc⟩
    · obtain ⟨A, c, rfl, hc1, hm1, -⟩ := own_slice hown
      have hsz := ho.size
      have Hsn := Lib.hid (take_getD hlt)
      have hlk : (l.take k).length ≤ 2048 := by rw [List.length_take]; omega
      have hlk2 := Lib.hid (show (l.take k).length = k by rw [List.length_take]; omega)
      have hlk3 : (l.take k).length < l.length := by rw [hlk2.out]; exact hlt
      generalize l.getD k 0 = y at *
      generalize l.take k = T at *
      go_wp2_with (at_builtin; go_must (refine wpList_push _ rfl (.tmp 17) (.tmp 19) _ rfl w.heap.size 3 _ 8 Try.underlying22 Try.infoInt rfl _ _ _ _ _ rfl rfl hown rfl (by unfold maxLen; omega) (by omega) hsz ?_))
      intro v' w2 hown' hbel' _ _
      have hown2 := own_snocI hown' rfl rfl
      obtain ⟨A', c', rfl, hc1', hm1', -⟩ := own_slice hown'
      rw [← Hsn.out] at hown2
      have ho2 := ho.thenBelow hbel' (Nat.le_refl _)
      have hb2 := ho2.blk hb Hgg.out
      have hc2 := hc.below hbel' hgc
      clear hown hown'
      go_wp2_with fail
      refine (take_any w2 hb2 hc2 (by omega)).mono ?_
      rintro e w3 ⟨x3, ok3, rfl, hd3, ho3⟩
      have hown3 := own_only hown2 ho3 hgc
      go_wp2
      go_roundw
      case rel => exact ⟨k + 1, by omega, hown3, hd3, ho2.trans ho3⟩
      case measure => simp [lenV]; omega
    · have hfull : l.take k = l := List.take_of_length_le (by omega)
      rw [hfull] at hown
      clear hfull hkl
      go_wp2
      go_ret
      exact ⟨_, rfl, hown, hc, ho⟩

/-! ### the reference's box -/
def RBox (w : World) (g : Nat) (room : Nat) (l : List Int) : Prop := ∃ A c, Blk w g 37 #[.slice A l.length c, .int .i64 (room : Int)] ∧ l.length ≤ c ∧ c ≤ maxLen ∧ I64s w w.heap.size A l ∧ ∀ a, A = some a → a.block ≠ g
theorem RBox.lt {w : World} {g room : Nat} {l : List Int} (h : RBox w g room l) : g < w.heap.size := by obtain ⟨_, _, hb, _⟩ := h; exact hb.lt
theorem I64s.only_ne {w w' : World} {g B : Nat} {A : Option Addr} {l : List Int} (h : I64s w B A l) (ho : Only g w w') (hB : B ≤ w.heap.size) (hne : ∀ a, A = some a → a.block ≠ g) : I64s w' B A l :=
  ⟨h.1, fun hn => by
    obtain ⟨b, off, e, hb, hc⟩ := h.2 hn
    refine ⟨b, off, e, hb, fun j u hu => ?_⟩
    have hbl := ho.block b (by omega) (fun e' => hne _ e (by injection e'))
    rw [World.cell?_of_block hbl]; exact hc j u hu⟩
theorem I64s.only_ch {w w' : World} {g B cap : Nat} {A : Option Addr} {l l' : List Int} (h : I64s w B A l) (ho : Only g w w') (hB : B ≤ w.heap.size) (hc : Ch w g cap l') : I64s w' B A l :=
  ⟨h.1, fun hn => by
    obtain ⟨b, off, e, hb, hcell⟩ := h.2 hn
    refine ⟨b, off, e, hb, fun j u hu => ?_⟩
    have hbg : b ≠ g := by
      rintro rfl
      obtain ⟨s, r, hc⟩ := hc
      have h0 := hcell 0 (.int .i64 (l.getD 0 0)) (i64_get hn)
      simp [World.cell?, hc] at h0
    have hbl := ho.block b (by omega) (fun e' => hbg (by injection e'))
    rw [World.cell?_of_block hbl]; exact hcell j u hu⟩
theorem RBox.chan {w w' : World} {g gc room cap : Nat} {l l' : List Int} (h : RBox w g room l) (ho : Only gc w w') (hc : Ch w gc cap l') : RBox w' g room l := by
  obtain ⟨A, c, hb, h1, h2, h3, h4⟩ := h
  exact ⟨A, c, ho.blk hb (blk_ne_ch hb hc), h1, h2, (h3.only_ch ho (Nat.le_refl _) hc).more ho.size, h4⟩
theorem RBox.below {w w' : World} {g room B : Nat} {l : List Int} (h : RBox w g room l) (hb : Below B w w') (hB : w.heap.size ≤ B) : RBox w' g room l := by
  obtain ⟨A, c, hb1, h1, h2, h3, h4⟩ := h
  exact ⟨A, c, hb1.below hb (Nat.lt_of_lt_of_le hb1.lt hB), h1, h2, (h3.below (hb.mono hB)).more hb.size, h4⟩
theorem RBox.drewN {w : World} {g room : Nat} {l : List Int} (h : RBox w g room l) (n : Nat) : RBox (w.drewN n) g room l := h
theorem Ch.drewN {w : World} {g cap : Nat} {l : List Int} (h : Ch w g cap l) (n : Nat) : Ch (w.drewN n) g cap l := h

set_option maxRecDepth 100000 in
set_option maxHeartbeats 800000 in
theorem rput_full (w : World) {g room : Nat} {l : List Int} (x : Int) (h : RBox w g room l) (hr : room ≤ l.length) :
    Calls Try.prog 15 #[.pointer (some ⟨g, 0, none⟩), .int .i64 x] w fun e w' => e = .returned (.bool false) ∧ ∃ n, w' = w.drewN n := by
  obtain ⟨A, c, hb, hc, hm, hr2, hne⟩ := h
  have c0 := hb.cell 0
  have c1 := hb.cell 1
  simp only [List.getElem?_toArray, List.getElem?_cons_zero, List.getElem?_cons_succ] at c0 c1
  have i1 : (room : Int) ≤ (l.length : Int) := by omega
  go_enter Try.func15, Try.ntmps15
  go_wp2_with fail
  go_quiet (fail)
  go_wp2
  go_ret
  exact ⟨rfl, _, rfl⟩

set_option maxRecDepth 100000 in
set_option maxHeartbeats 800000 in
theorem rput_ok (w : World) {g room : Nat} {l : List Int} (x : Int) (h : RBox w g room l) (hr : l.length < room) (hroom : room ≤ 2048) :
    Calls Try.prog 15 #[.pointer (some ⟨g, 0, none⟩), .int .i64 x] w fun e w' => e = .returned (.bool true) ∧ RBox w' g room (l ++ [x]) ∧ Only g w w' := by
  obtain ⟨A, c, hb, hc, hm, hr2, hne⟩ := h
  have c0 := hb.cell 0
  have c1 := hb.cell 1
  simp only [List.getElem?_toArray, List.getElem?_cons_zero, List.getElem?_cons_succ] at c0 c1
  have hg := hb.lt
  have i1 : (l.length : Int) < (room : Int) := by omega
  have n0 := World.new_ne w ⟨g, 0, none⟩ c0
  go_enter Try.func15, Try.ntmps15
  go_wp2_with fail
  go_quiet (fail)
  have ca : ((w.drewN nq).alloc (.cells #[] 3)).cell? ⟨g, 0, none⟩ = some (.slice A l.length c) := (World.cell?_alloc_lt _ _ _ hg).trans c0
  go_wp2_with (at_builtin; go_must (refine wpList_append_sl _ rfl (.tmp 16) (.tmp 20) _ rfl w.heap.size 3 _ 1 8 Try.underlying22 Try.infoInt rfl (by omega) _ _ _ rfl (World.ownsRow_made (w.drewN nq) #[] 0 (Nat.le_refl _) (Nat.zero_le _) rfl) w.heap.size A l.length c (l.map (Value.int .i64)) rfl (hr2.to (below_drewN_ (Below.refl w.heap.size w) nq |>.alloc (Nat.le_refl _) _) (Nat.le_refl _)) (i64_one l) (by unfold maxLen; omega) (by omega) (by simp) ?_))
  intro A1 cc1 w1 hc1 hm1 _ hbel1 hown1 _ _
  have hown1' : w1.ownsRow w.heap.size 3 1 (.slice A1 l.length cc1) l.length (l.map (Value.int .i64)) := by simpa using hown1
  have hb1 : Below w.heap.size w w1 := ((below_drewN_ (Below.refl w.heap.size w) nq).alloc (Nat.le_refl _) _).trans hbel1
  have s1 := hb1.size
  clear hown1 hbel1
  go_wp2_with (at_builtin; go_must (refine wpList_push _ rfl (.tmp 21) (.tmp 23) _ rfl w.heap.size 3 _ 8 Try.underlying22 Try.infoInt rfl _ _ _ _ _ rfl rfl hown1' rfl (by unfold maxLen; omega) (by omega) s1 ?_))
  intro v2 w2 hown2 hbel2 _ _
  have hown3 := own_snocI hown2 rfl rfl
  obtain ⟨A3, c3, rfl, hc3, hm3, hr3⟩ := own_slice hown3
  have hb2 := hb1.trans hbel2
  have hB := hb.below hb2 hg
  have k0 := hB.cell 0
  have f0 := hB.frozen 0
  have hA3 : ∀ a, A3 = some a → w.heap.size ≤ a.block := fun a ha => (hown3.lt a.block (by rw [ha]; rfl)).1
  clear hown1' hown2 hown3
  generalize hL : l ++ [x] = L at *
  have HL := Lib.hid hL
  clear hL
  go_wp2
  go_ret
  rw [HL.out]
  refine ⟨rfl, ⟨A3, c3, hB.set_ 0 _, hc3, hm3, ?_, fun a ha => by have := hA3 a ha; omega⟩, (Only.of_below hb2).setCell (.inl rfl) _⟩
  have hr3' : I64s w2 w2.heap.size A3 L := hr3
  have := hr3'.only_ne (Only.setCell (Only.refl g w2) (p := ⟨g, 0, none⟩) (.inl rfl) (.slice A3 L.length c3)) (Nat.le_refl _) (fun a ha => by have := hA3 a ha; omega)
  simpa [World.setCell] using this

set_option maxRecDepth 100000 in
set_option maxHeartbeats 800000 in
theorem rtake_empty (w : World) {g room : Nat} (h : RBox w g room []) :
    Calls Try.prog 16 #[.pointer (some ⟨g, 0, none⟩)] w fun e w' => e = .returned (.tuple #[.int .i64 0, .bool false]) ∧ w = w' := by
  obtain ⟨A, c, hb, hc, hm, hr2, hne⟩ := h
  have c0 := hb.cell 0
  simp only [List.getElem?_toArray, List.getElem?_cons_zero, List.length_nil] at c0
  go_enter Try.func16, Try.ntmps16
  go_wp2
  go_ret2
  exact ⟨rfl, rfl⟩
set_option maxRecDepth 100000 in
set_option maxHeartbeats 800000 in
theorem rtake_ok (w : World) {g room : Nat} {x : Int} {l : List Int} (h : RBox w g room (x :: l)) (hl : l.length ≤ 2048) :
    Calls Try.prog 16 #[.pointer (some ⟨g, 0, none⟩)] w fun e w' => e = .returned (.tuple #[.int .i64 x, .bool true]) ∧ RBox w' g room l ∧ Only g w w' := by
  obtain ⟨A, c, hb, hc, hm, hr2, hne⟩ := h
  have c0 := hb.cell 0
  have f0 := hb.frozen 0
  simp only [List.getElem?_toArray, List.getElem?_cons_zero, List.length_cons] at c0
  obtain ⟨b, off, rfl, hbb, hcell⟩ := hr2.cell (by simp)
  have k0 := hcell 0 (by simp)
  simp only [Nat.add_zero, List.getD_cons_zero] at k0
  have hcut := Reads.cut (k := 1) (cap := c) hr2 (by simp) hc
  have q : (((l.length : Int) + 1) == 0) = false := eqf (by omega)
  have hg := hb.lt
  clear hcell
  simp only [List.length_cons] at hc
  have i1 : (1 : Int) ≤ (l.length : Int) + 1 := by omega
  have i2 : (l.length : Int) + 1 ≤ (c : Int) := by omega
  have hbne : b ≠ g := hne _ rfl
  simp only [Nat.mul_one, List.length_cons, Nat.add_sub_cancel, List.map_cons, List.drop_one, List.tail_cons] at hcut
  have hdone : ∀ (A2 : Option Addr) (c2 : Nat), l.length ≤ c2 → c2 ≤ c → (∀ a, A2 = some a → a.block = b) → Reads w w.heap.size 1 A2 l.length (l.map (Value.int .i64)) → RBox (w.setCell ⟨g, 0, none⟩ (.slice A2 l.length c2)) g room l := fun A2 c2 h1 h2 h3 h4 => by
    refine ⟨A2, c2, hb.set_ 0 _, h1, Nat.le_trans h2 hm, ?_, fun a ha => by rw [h3 a ha]; exact hbne⟩
    have h5 : I64s w w.heap.size A2 l := h4
    have := h5.only_ne (Only.setCell (Only.refl g w) (p := ⟨g, 0, none⟩) (.inl rfl) (.slice A2 l.length c2)) (Nat.le_refl _) (fun a ha => by rw [h3 a ha]; exact hbne)
    simpa [World.setCell] using this
  have Hdone := Lib.hid hdone
  clear hdone
  by_cases h1c : c = 1
  · rw [if_pos h1c] at hcut
    go_enter Try.func16, Try.ntmps16
    go_wp2
    go_ret2
    exact ⟨rfl, Hdone.out _ _ (by omega) (by omega) (fun a ha => by injection ha with ha; rw [← ha]) hcut, (Only.refl g w).setCell (.inl rfl) _⟩
  · rw [if_neg h1c] at hcut
    go_enter Try.func16, Try.ntmps16
    go_wp2
    go_ret2
    refine ⟨rfl, Hdone.out _ _ (by omega) (by omega) (fun a ha => by injection ha with ha; rw [← ha]) ?_, (Only.refl g w).setCell (.inl rfl) _⟩
    simpa [addr_add] using hcut

set_option maxRecDepth 100000 in
set_option maxHeartbeats 400000 in
theorem same12_calls (w : World) {B1 B2 c1 c2 : Nat} {A1 A2 : Option Addr} {l m : List Int} (h1 : I64s w B1 A1 l) (h2 : I64s w B2 A2 m) (hn : l.length ≤ 140737488355328) :
    Calls Try.prog 17 #[.slice A1 l.length c1, .slice A2 m.length c2] w fun e w' => e = .returned (.bool (l == m)) ∧ ∃ n, w' = w.drewN n := by
  by_cases hlen : l.length = m.length
  · go_enter Try.func17, Try.ntmps17
    have q : ((l.length : Int) != (m.length : Int)) = false := nef (by omega)
    have HL := Lib.hid hlen
    have hle : l.length ≤ m.length := by omega
    have hle2 : m.length ≤ l.length := by omega
    clear hlen
    go_wp2
    go_loopw [13] (fun i wr => ∃ k n : Nat, k ≤ l.length ∧ i = .int .i64 (k : Int) ∧ Hid (l.take k = m.take k) ∧ wr = w.drewN n) (fun i _ => l.length - (intOf i).toNat)
    case atStart => exact ⟨0, 0, Nat.zero_le _, rfl, Lib.hid (by simp), rfl⟩
    case round =>
      obtain ⟨k, n, hk, rfl, heq, rfl⟩ := hrel
      by_cases hlt : k < l.length
      · obtain ⟨b1, off1, rfl, _, hcell1⟩ := h1.cell (by omega)
        obtain ⟨b2, off2, rfl, _, hcell2⟩ := h2.cell (by omega)
        have hck1 : w.cell? ⟨b1, off1 + k, none⟩ = some (.int .i64 (l.getD k 0)) := hcell1 k hlt
        have hck2 : w.cell? ⟨b2, off2 + k, none⟩ = some (.int .i64 (m.getD k 0)) := hcell2 k (by omega)
        have hlt2 : k < m.length := by omega
        have i1 : (k : Int) < (l.length : Int) := by omega
        have i2 : (k : Int) < (m.length : Int) := by omega
        have i0 : (0 : Int) ≤ (k : Int) := by omega
        clear hcell1 hcell2
        by_cases he : l.getD k 0 = m.getD k 0
        · have Hs := Lib.hid (eq_step HL.out hlt heq.out he)
          have qe : (l.getD k 0 != m.getD k 0) = false := nef he
          clear he
          generalize l.getD k 0 = x at *
          generalize m.getD k 0 = y at *
          go_wp2_with fail
          go_quiet (fail)
          go_wp2
          go_roundw
          case rel => exact ⟨k + 1, n + nq, by omega, by go_num, Hs, rfl⟩
          case measure => simp [intOf]; omega
        · have Hs := Lib.hid (ne_at he)
          have qe : (l.getD k 0 != m.getD k 0) = true := net he
          clear he
          generalize l.getD k 0 = x at *
          generalize m.getD k 0 = y at *
          go_wp2_with fail
          go_quiet (fail)
          go_wp2
          go_ret
          exact ⟨by rw [Hs.out]; rfl, n + nq, by simp⟩
      · have Hs := Lib.hid (eq_end HL.out (by omega) heq.out)
        go_wp2
        go_ret
        exact ⟨by rw [Hs.out]; rfl, _, rfl⟩
  · have Hs := Lib.hid (ne_len hlen)
    have q : ((l.length : Int) != (m.length : Int)) = true := net (by omega)
    clear hlen
    go_enter Try.func17, Try.ntmps17
    go_wp2
    go_ret
    exact ⟨by rw [Hs.out]; rfl, 0, rfl⟩
end Go.Proofs.Ytepfggfideianaa
