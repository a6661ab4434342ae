/- Drain of a bay: all things, by rising keys (chapter 15). -/
import Derived.Test.YtepfggfideianaaProg
import Derived.Test.YtepfggfideianaaByD
namespace Go.Proofs.Ytepfggfideianaa
open Go.RowKit Go.Conc
namespace By

theorem drainBay_nil (w : World) : Calls Try.prog 22 #[.pointer none] w fun e w' => e = .returned (.slice none 0 0) ∧ w = w' := by
  go_enter Try.func22, Try.ntmps22
  go_wp2
  go_ret
  exact ⟨rfl, rfl⟩
theorem CK.thenBelow {w w1 w2 : World} (h : CK w w1) (hb : Below w.heap.size w1 w2) : CK w w2 := ⟨Nat.le_trans h.1 hb.size, fun i cs t f hi => (hb.block i (lt_of_some hi)).trans (h.2 i cs t f hi)⟩
/-- A bay under way: j of its boxes are drained. -/
structure Dr (w1 wr : World) (B gb bm room : Nat) (m : List (ByteArray × Nat)) (L : List KX) (j : Nat) : Prop where
  blk : Blk wr gb 67 #[.int .i64 (room : Int), .map (some bm)]
  map : MapAt kS evB wr bm m
  ch : ∀ p ∈ m.drop j, Ch wr p.2 room (que L p.1)
  low : Below B w1 wr
  ck : CK w1 wr
  gb : gb < w1.heap.size
  bm : bm < w1.heap.size
  gs : ∀ p ∈ m, p.2 < w1.heap.size
  hB : B ≤ w1.heap.size
theorem Dr.start {w1 : World} {B gb bm room : Nat} {m : List (ByteArray × Nat)} {L : List KX} (h : BayAt w1 B gb bm room m L) : Dr w1 w1 B gb bm room m L 0 :=
  ⟨h.blk, h.map, fun p hp => h.ch p hp, Below.refl _ _, CK.refl _, h.lt_gb, h.map.lt_, fun p hp => (h.ch p hp).lt, Nat.le_of_lt (Nat.lt_of_le_of_lt h.bg h.lt_gb)⟩
theorem Dr.more {w1 wr w2 : World} {B gb bm room j : Nat} {m : List (ByteArray × Nat)} {L : List KX} (h : Dr w1 wr B gb bm room m L j) (hb : Below w1.heap.size wr w2) : Dr w1 w2 B gb bm room m L j :=
  ⟨h.blk.below hb h.gb, h.map.below hb h.bm, fun p hp => (h.ch p hp).below hb (h.gs p (List.mem_of_mem_drop hp)), h.low.trans (hb.mono h.hB), h.ck.thenBelow hb, h.gb, h.bm, h.gs, h.hB⟩
def bx (m : List (ByteArray × Nat)) (j : Nat) : ByteArray × Nat := m.getD j (ByteArray.empty, 0)
theorem bx_eq {m : List (ByteArray × Nat)} {j : Nat} (h : j < m.length) : m[j] = bx m j := by simp [bx, List.getD, List.getElem?_eq_getElem h]
theorem bx_mem {m : List (ByteArray × Nat)} {j : Nat} (h : j < m.length) : bx m j ∈ m := by rw [← bx_eq h]; exact List.getElem_mem _
theorem bx_drop {m : List (ByteArray × Nat)} {j : Nat} (h : j < m.length) : m.drop j = bx m j :: m.drop (j + 1) := by rw [List.drop_eq_getElem_cons h, bx_eq h]
theorem bx_take {m : List (ByteArray × Nat)} {j : Nat} (h : j < m.length) : m.take (j + 1) = m.take j ++ [bx m j] := by rw [List.take_succ_eq_append_getElem h, bx_eq h]
theorem Dr.next {w1 wr w2 : World} {B gb bm room j : Nat} {m : List (ByteArray × Nat)} {L : List KX} (h : Dr w1 wr B gb bm room m L j) (hj : j < m.length) (hn : Nd m) (h1 : ∀ p ∈ m, ∀ q ∈ m, p.2 = q.2 → p.1 = q.1) (hB : B ≤ (bx m j).2) (ho : Only (bx m j).2 wr w2) : Dr w1 w2 B gb bm room m L (j + 1) := by
  have hd := bx_drop hj
  have hc := h.ch (bx m j) (by rw [hd]; exact List.mem_cons_self)
  have hs := h.ck.1
  refine ⟨ho.blk h.blk (blk_ne_ch h.blk hc), h.map.kept ho (fun e => by injection e with e; exact ch_ne_map hc h.map e.symm), fun p hp => ?_, h.low.trans (ho.below hB (Nat.le_trans h.hB hs)), h.ck.trans (CK.chan ho hc), h.gb, h.bm, h.gs, h.hB⟩
  refine (h.ch p (by rw [hd]; exact List.mem_cons_of_mem _ hp)).only ho fun e => ?_
  have hn' := hn.sublist (List.drop_sublist j m)
  rw [hd] at hn'
  exact (List.pairwise_cons.1 hn').1 p hp (h1 _ (bx_mem hj) p (List.mem_of_mem_drop hp) e.symm)
theorem drn_take {m : List (ByteArray × Nat)} {j : Nat} (h : j < m.length) (L : List KX) : drn (m.take (j + 1)) L = drn (m.take j) L ++ sel L (bx m j).1 := by
  rw [bx_take h]; simp [drn]
theorem sel_take {L : List KX} {k : ByteArray} {q : Nat} (h : q < (que L k).length) : (sel L k).take (q + 1) = (sel L k).take q ++ [(k, (que L k).getD q 0)] := by
  have h' : q < (sel L k).length := by rw [sel_eq, List.length_map]; exact h
  rw [List.take_succ_eq_append_getElem h']
  congr 2
  simp only [sel_eq, List.getElem_map, List.getD, List.getElem?_eq_getElem h, Option.getD_some]
theorem apart_kept {w w' : World} {base : Nat} {e : TypeId} {size n a b : Nat} {tv ov : Value} {xs : List Value} (h : w.ownsRow base e size tv n xs) (hg : w.grownBy w' ov.ownBlock)
    (h1 : ∀ g, tv.ownBlock = some g → a ≤ g ∧ g < b) (h2 : ∀ g, ov.ownBlock = some g → g < a ∨ b ≤ g) : w'.ownsRow base e size tv n xs := by
  refine h.kept hg ?_
  rcases ht : tv.ownBlock with _ | g
  · exact .inl rfl
  · right
    intro e'
    have k1 := h1 g ht
    have k2 := h2 g e'.symm
    omega
theorem _root_.Go.World.ownsRow.mono_ {w : World} {b1 b2 : Nat} {e : TypeId} {size n : Nat} {v : Value} {xs : List Value} (h : w.ownsRow b1 e size v n xs) (hb : b2 ≤ b1) : w.ownsRow b2 e size v n xs := by
  refine ⟨h.1, ?_⟩
  rcases h.2 with h0 | ⟨g, cap, cur, hv, hbg, rest⟩
  · exact .inl h0
  · exact .inr ⟨g, cap, cur, hv, Nat.le_trans hb hbg, rest⟩
theorem drn_len {m : List (ByteArray × Nat)} (L : List KX) : (drn m L).length = sumN (m.map fun p => cnt L p.1) := by
  induction m with
  | nil => rfl
  | cons a r ih => rw [List.map_cons, sumN_cons, ← ih, show drn (a :: r) L = sel L a.1 ++ drn r L from by simp [drn], List.length_append]; rfl
def RetDrain (w : World) (B gb bm room : Nat) (D : List KX) (e : Ending) (w' : World) : Prop := ∃ A c, e = .returned (.slice A D.length c) ∧ w'.ownsRow w.heap.size 47 2 (.slice A D.length c) D.length (kxc D) ∧ BayAt w' B gb bm room [] [] ∧ Below B w w' ∧ CK w w'
theorem Try.infoKx : (Try.prog.info? 47).map (fun i => (i.zero, i.size, i.bytes)) = some (some (.agg #[.string .empty, .int .i64 0]), 2, 24) := by kernel_rfl
set_option maxRecDepth 100000 in
set_option maxHeartbeats 3200000 in
theorem drainBay_calls (w : World) {B gb bm room : Nat} {m : List (ByteArray × Nat)} {L : List KX} (h : BayAt w B gb bm room m L) (hL : L.length ≤ 1000000) (hroom : room ≤ 2048) :
    Calls Try.prog 22 #[.pointer (some ⟨gb, 0, none⟩)] w (RetDrain w B gb bm room (drn m L)) := by
  have HB := Lib.hid h
  have HU := Lib.hid Try.underlying65
  have hBw : B ≤ w.heap.size := Nat.le_of_lt (Nat.lt_of_le_of_lt h.bg h.lt_gb)
  have c1 : w.cell? ⟨gb, 1, none⟩ = some (.map (some bm)) := h.blk.cell 1
  have hfew := h.few
  have hsize : Go.Maps.size (DataW.map (m.map (encE kS evB))) = m.length := by rw [Go.Maps.size_eq, List.length_map]
  have HSF := Lib.hid (sorted_fn bm m.length _ rawR w h.map.own (by rw [hsize]; unfold maxLen; omega) (by rw [hsize]; omega))
  have HSK := Lib.hid fun (ss : List (List UInt8)) hp => sorted_keys (hk := Try.underlying9) (ev := evB) h.map.srt (ss := ss) hp
  have HDL : Hid ((drn m L).length = L.length) := Lib.hid (by rw [drn_len, sum_len h.nd h.held])
  clear h hsize
  go_enter Try.func22, Try.ntmps22
  go_wp2_with fail
  refine (keys_fn (some bm) w).mono ?_
  rintro e w' ⟨rfl, rfl⟩
  go_wp2_with fail
  refine HSF.out.mono ?_
  rintro e w1 ⟨v, ss, rfl, hperm, hrow, -, hb1⟩
  obtain ⟨hkeys, hsl⟩ := HSK.out ss hperm
  rw [hkeys, hsl] at hrow
  obtain ⟨A1, cc1, rfl, -, -, hrd1⟩ := own_slice hrow
  have hbw : Below w.heap.size w w1 := ((Below.refl w.heap.size w).alloc (Nat.le_refl _) _).trans (hb1.mono (by simp))
  have HK1 := Lib.hid hrd1
  have HB1 := Lib.hid (HB.out.below hbw)
  have HD1 := Lib.hid (Dr.start HB1.out)
  have HW1 := Lib.hid hbw
  have hs1 := hbw.size
  clear hkeys hsl hrow hrd1 hbw hb1 hperm HSK HSF c1
  go_wp2
  go_loopw [3, 18] (fun out i wr => ∃ (j : Nat) (A : Option Addr) (c : Nat), j ≤ m.length ∧ i = .int .i64 (j : Int) ∧ out = .slice A (drn (m.take j) L).length c ∧ Hid (wr.ownsRow w1.heap.size 47 2 (.slice A (drn (m.take j) L).length c) (drn (m.take j) L).length (kxc (drn (m.take j) L))) ∧ Hid (Dr w1 wr B gb bm room m L j)) (fun _ i _ => m.length - (intOf i).toNat)
  case atStart => exact ⟨0, none, 0, Nat.zero_le _, rfl, rfl, Lib.hid (World.ownsRow_nil _ _ _ _), HD1⟩
  case round =>
    obtain ⟨j, A, c, hj, rfl, rfl, HO, HD⟩ := hrel
    obtain ⟨wo, rfl⟩ : ∃ wo : World, wo = wr := ⟨_, rfl⟩
    have hso := HD.out.ck.1
    by_cases hlt : j < m.length
    · obtain ⟨bK, oK, eK, hbK, hcK⟩ := (HD.out.ck.reads HK1.out).2 (by omega)
      have k0 := hcK j (.string (bx m j).1) (by rw [List.getElem?_map, List.getElem?_eq_getElem hlt, bx_eq hlt]; rfl)
      have c1 : wo.cell? ⟨gb, 1, none⟩ = some (.map (some bm)) := HD.out.blk.cell 1
      have i0 : (0 : Int) ≤ (j : Int) := by omega
      have i9 : (j : Int) < (m.length : Int) := by omega
      have HOK : Hid ((kS).ok (bx m j).1) := Lib.hid (HB1.out.map.ok _ (bx_mem hlt))
      have HE : Hid ((mget m (bx m j).1).elim (.agg #[.chan none]) evB = .agg #[.chan (some (bx m j).2)]) := Lib.hid (by rw [mget_of_mem HB1.out.nd (show ((bx m j).1, (bx m j).2) ∈ m from bx_mem hlt)]; rfl)
      have HCH := Lib.hid (HD.out.ch (bx m j) (by rw [bx_drop hlt]; exact List.mem_cons_self))
      have hq9 : (que L (bx m j).1).length ≤ room := by rw [que_len]; exact HB1.out.room _
      have HNX : Hid (∀ w2 w3, Dr w1 w2 B gb bm room m L j → Only (bx m j).2 w2 w3 → Dr w1 w3 B gb bm room m L (j + 1)) := Lib.hid fun w2 w3 hd ho => hd.next hlt HB1.out.nd HB1.out.one (HB1.out.bc _ (bx_mem hlt)) ho
      have HGS := Lib.hid (HD.out.gs _ (bx_mem hlt))
      have HTK := Lib.hid (drn_take hlt L)
      have hT9 : (drn (m.take j) L).length + (que L (bx m j).1).length ≤ 1000000 := by
        have h1 := congrArg List.length (drn_take hlt L)
        rw [List.length_append, sel_eq, List.length_map] at h1
        have h2 : (drn m L).length = (drn (m.take (j + 1)) L).length + (drn (m.drop (j + 1)) L).length := by
          rw [← List.length_append]; congr 1; unfold drn; rw [← List.flatMap_append, List.take_append_drop]
        have := HDL.out
        omega
      have HSL : Hid (∀ q, q < (que L (bx m j).1).length → (sel L (bx m j).1).take (q + 1) = (sel L (bx m j).1).take q ++ [((bx m j).1, (que L (bx m j).1).getD q 0)]) := Lib.hid fun q hq => sel_take hq
      have HSE : Hid ((sel L (bx m j).1).take (que L (bx m j).1).length = sel L (bx m j).1) := Lib.hid (List.take_of_length_le (by rw [sel_eq, List.length_map]; exact Nat.le_refl _))
      clear hcK
      subst eK
      generalize bx m j = kg at *
      obtain ⟨k, g⟩ := kg
      dsimp only at *
      generalize hTT : drn (m.take j) L = T at *
      clear hTT
      go_wp2_with (at_lookup; go_must (refine wpList_getv _ rfl _ _ rfl HD.out.map HU.out (zBox _) k rfl rfl HOK.out _ HE.out ?_))
      have hb3 := (Below.refl wo.heap.size wo).alloc (Nat.le_refl _) (.cells #[.chan (some g)] 64)
      have HBX := Lib.hid (Blk.new wo 64 #[.chan (some g)])
      have HC3 := Lib.hid (HCH.out.below hb3 HCH.out.lt)
      have HD3 := Lib.hid (HD.out.more (hb3.mono hso))
      have HO3 := Lib.hid (own_below HO.out hb3)
      have hs3 : w1.heap.size ≤ (wo.alloc (.cells #[.chan (some g)] 64)).heap.size := by simp; omega
      clear hb3 HD HO HCH k0 c1 HE
      generalize wo.heap.size = gx at *
      generalize wo.alloc (.cells #[.chan (some g)] 64) = w3 at *
      refine (drain_calls w3 HBX.out HC3.out (by omega)).mono ?_
      rintro e w4 ⟨dv, rfl, hrow4, -, ho4⟩
      have HO4 := Lib.hid (own_only HO3.out ho4 HGS.out)
      have HD4 := Lib.hid (HNX.out _ _ HD3.out ho4)
      have hs4 := ho4.size
      obtain ⟨A4, c4, rfl, -, -, -⟩ := own_slice hrow4
      have HGD : Hid (∀ b, (Value.slice A4 (que L k).length c4).ownBlock = some b → w3.heap.size ≤ b ∧ b < w4.heap.size) := Lib.hid fun b hb => hrow4.lt b hb
      have HAP : Hid (∀ b, (Value.slice A T.length c).ownBlock = some b → b < w3.heap.size ∨ w4.heap.size ≤ b) := Lib.hid fun b hb => .inl (HO3.out.lt b hb).2
      have HR4 := Lib.hid hrow4
      have hl4 : (que L k).length ≤ 1000000 := by omega
      have HQ := Lib.hid (show (que L k).length = (que L k).length from rfl)
      clear hrow4 ho4 HBX HC3 HD3 HO3 HNX HGS HQ
      go_wp2
      go_loopw [3, 30] (fun out i wr => ∃ (q : Nat) (A : Option Addr) (c : Nat), q ≤ (que L k).length ∧ i = .int .i64 (q : Int) ∧ out = .slice A (T ++ (sel L k).take q).length c ∧ Hid (wr.ownsRow w1.heap.size 47 2 (.slice A (T ++ (sel L k).take q).length c) (T ++ (sel L k).take q).length (kxc (T ++ (sel L k).take q))) ∧ Hid (∀ b, (Value.slice A (T ++ (sel L k).take q).length c).ownBlock = some b → b < w3.heap.size ∨ w4.heap.size ≤ b) ∧ Hid (wr.ownsRow w3.heap.size 3 1 (.slice A4 (que L k).length c4) (que L k).length ((que L k).map (Value.int .i64))) ∧ Hid (Below w1.heap.size w4 wr) ∧ w4.heap.size ≤ wr.heap.size) (fun _ i _ => (que L k).length - (intOf i).toNat)
      case atStart =>
        have e0 : T ++ (sel L k).take 0 = T := by simp
        rw [← e0] at HO4 HAP
        exact ⟨0, A, c, Nat.zero_le _, rfl, by rw [e0], HO4, HAP, HR4, Lib.hid (Below.refl _ _), Nat.le_refl _⟩
      case round =>
        obtain ⟨q, A', c', hq, rfl, rfl, HO, HA, HR, HW, hz⟩ := hrel
        obtain ⟨wi, rfl⟩ : ∃ wi : World, wi = wr := ⟨_, rfl⟩
        by_cases hlq : q < (que L k).length
        · obtain ⟨b4, o4, e4, hb4, hc4⟩ := (Reads.of_own HR.out).2 (by omega)
          have x0 := hc4 q (.int .i64 ((que L k).getD q 0)) (by rw [List.getElem?_map, List.getElem?_eq_getElem hlq]; simp [List.getD, List.getElem?_eq_getElem hlq])
          have q0 : (0 : Int) ≤ (q : Int) := by omega
          have q9 : (q : Int) < ((que L k).length : Int) := by omega
          have HX : Hid (T ++ (sel L k).take (q + 1) = T ++ (sel L k).take q ++ [(k, (que L k).getD q 0)]) := Lib.hid (by rw [HSL.out q hlq, List.append_assoc])
          have hlen : (T ++ (sel L k).take q).length ≤ 1000000 := by rw [List.length_append, List.length_take]; omega
          clear hc4
          subst e4
          generalize (que L k).getD q 0 = x at *
          generalize T ++ (sel L k).take q = Tq at *
          have hs14 : w1.heap.size ≤ wi.heap.size := by omega
          have HOA := Lib.hid (HO.out.alloc (.cells #[.string k, .int .i64 x] 47))
          have HRA := Lib.hid (HR.out.alloc (.cells #[.string k, .int .i64 x] 47))
          have hrd : Reads (wi.alloc (.cells #[.string k, .int .i64 x] 47)) (wi.heap.size + 1) 2 (some ⟨wi.heap.size, 0, none⟩) 1 [.string k, .int .i64 x] := Reads.made (n := 1) (size := 2) wi _ 47 rfl
          have HWA : Hid (Below w1.heap.size w4 (wi.alloc (.cells #[.string k, .int .i64 x] 47))) := Lib.hid (HW.out.alloc hs14 _)
          go_wp2_with (at_builtin; go_must (refine wpList_append_sl _ rfl (.tmp 34) (.tmp 38) _ rfl w1.heap.size 47 _ 2 24 Try.underlying48 Try.infoKx rfl (by omega) _ _ _ rfl HOA.out (wi.heap.size + 1) _ 1 1 _ rfl hrd (by simp [Value.oneCell']) (by unfold maxLen; omega) (by omega) (by simp; omega) ?_))
          intro A5 c5 w5 hc51 hc52 hr5 hbel5 hown5 hgr hob
          have e5 : (T ++ (sel L k).take (q + 1)).length = Tq.length + 1 := by rw [HX.out, List.length_append]; rfl
          have HO5 : Hid (w5.ownsRow w1.heap.size 47 2 (.slice A5 (T ++ (sel L k).take (q + 1)).length c5) (T ++ (sel L k).take (q + 1)).length (kxc (T ++ (sel L k).take (q + 1)))) := Lib.hid (by rw [e5, HX.out, kxc_app]; exact hown5)
          have HR5 := Lib.hid (apart_kept HRA.out hgr HGD.out HA.out)
          have HA5 : Hid (∀ b, (Value.slice A5 (T ++ (sel L k).take (q + 1)).length c5).ownBlock = some b → b < w3.heap.size ∨ w4.heap.size ≤ b) := Lib.hid fun b hb => by
            rw [e5] at hb
            rcases hob with h | h
            · rw [h] at hb; exact HA.out b hb
            · rw [h] at hb; injection hb with hb; omega
          have HW5 := Lib.hid (HWA.out.trans hbel5)
          have hz5 : w4.heap.size ≤ w5.heap.size := by have := hbel5.size; simp at this; omega
          have E5 := Lib.hid e5
          clear hc51 hc52 hr5 hbel5 hown5 hgr hob hrd HOA HRA HWA x0 e5
          go_wp2
          go_roundw
          case rel => exact ⟨q + 1, A5, c5, by omega, by go_num, by rw [E5.out], HO5, HA5, HR5, HW5, hz5⟩
          case measure => simp [intOf]; omega
        · obtain rfl : q = (que L k).length := by omega
          rw [HSE.out, ← HTK.out] at HO
          have E1 := Lib.hid (congrArg List.length (show T ++ (sel L k).take (que L k).length = drn (m.take (j + 1)) L by rw [HSE.out, HTK.out]))
          have HD5 := Lib.hid (HD4.out.more HW.out)
          clear HA HR HW HO4 HD4 HAP HGD HR4
          go_wp2
          go_roundw
          case rel => exact ⟨j + 1, A', c', by omega, by go_num, by rw [E1.out], HO, HD5⟩
          case measure => simp [intOf]; omega
    · obtain rfl : j = m.length := by omega
      rw [List.take_length] at HO ⊢
      have c1 : wo.cell? ⟨gb, 1, none⟩ = some (.map (some bm)) := HD.out.blk.cell 1
      obtain ⟨w2, hrun, hm2, hg2, hs2⟩ := HD.out.map.clear_run HU.out 0
      have HM2 := Lib.hid hm2
      have HG2 := Lib.hid hg2
      have HS2 := Lib.hid hs2
      clear hm2 hg2 hs2
      go_wp2
      go_ret
      have hbm := HD.out.bm
      refine ⟨A, c, rfl, World.ownsRow.mono_ (HO.out.kept HG2.out ?_) hs1, ⟨?_, HM2.out, (fun p hp => by cases hp), (fun x hx => by cases hx), (fun p hp => by cases hp), (fun k => Nat.zero_le _), HB.out.bg, HB.out.bb, (fun p hp => by cases hp), (fun p hp => by cases hp)⟩, ?_, ?_⟩
      · rcases hv : (Value.slice A (drn m L).length c).ownBlock with _ | g
        · exact .inl rfl
        · right
          intro e
          injection e with e
          have := (HO.out.lt g hv).1
          omega
      · exact HD.out.blk.grown HG2.out (fun e => by injection e with e; exact blk_ne_map HD.out.blk HD.out.map e)
      · exact (HW1.out.mono hBw).trans (HD.out.low.trans ((Below.refl B wo).grown HG2.out (Nat.le_trans HD.out.hB hso) (by intro g hg; injection hg with hg; have := HB.out.bb; omega)))
      · exact (CK.of_below HW1.out).trans (HD.out.ck.trans (CK.map HG2.out HD.out.map))
end By
end Go.Proofs.Ytepfggfideianaa
