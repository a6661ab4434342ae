/- The document's Drain: by rising keys; the same things (chapter 15). -/
import Derived.Test.YtepfggfideianaaProg
import Derived.Test.YtepfggfideianaaByG
namespace Go.Proofs.Ytepfggfideianaa
open Go.RowKit Go.Conc
namespace By

theorem kxc_take : ∀ (l : List KX) (k : Nat), (kxc l).take (k * 2) = kxc (l.take k)
  | [], k => by simp [kxc]
  | x :: r, 0 => by simp [kxc]
  | x :: r, k + 1 => by
    rw [List.take_succ_cons, show kxc (x :: r) = [.string x.1, .int .i64 x.2] ++ kxc r from rfl, show kxc (x :: r.take k) = [.string x.1, .int .i64 x.2] ++ kxc (r.take k) from rfl, ← kxc_take r k, show (k + 1) * 2 = [Value.string x.1, Value.int .i64 x.2].length + k * 2 by simp; omega, List.take_length_add_append]
theorem kxc_drop : ∀ (l : List KX) (k : Nat), (kxc l).drop (k * 2) = kxc (l.drop k)
  | [], k => by simp [kxc]
  | x :: r, 0 => by simp
  | x :: r, k + 1 => by
    rw [List.drop_succ_cons, ← kxc_drop r k, show kxc (x :: r) = [.string x.1, .int .i64 x.2] ++ kxc r from rfl, show (k + 1) * 2 = [Value.string x.1, Value.int .i64 x.2].length + k * 2 by simp; omega, List.drop_length_add_append]
def cutA (A : Option Addr) (c k size : Nat) : Option Addr := if c = k then A else A.map (·.add (k * size))
theorem Reads.cutA_ {w : World} {B size n : Nat} {A : Option Addr} {xs : List Value} (h : Reads w B size A n xs) {k cap : Nat} (hk : k ≤ n) (hc : n ≤ cap) : Reads w B size (cutA A cap k size) (n - k) (xs.drop (k * size)) := h.cut hk hc
set_option maxRecDepth 100000 in
theorem slice2_at (w : World) (A : Option Addr) (n c k : Nat) (h : k ≤ n) (hc : n ≤ c) :
    (Instr.slice 51 (.slice A n c) (some (.int .i64 (k : Int))) none none).run Try.prog w = .ok (.slice (cutA A c k 2) (n - k) (c - k)) w := by
  unfold cutA
  have e : ((k : Int)).toNat = k := by omega
  obtain ⟨i, hi, _, hs, _⟩ := info_parts Try.infoKr
  have hE : Try.prog.elem 51 = 61 := by kernel_rfl
  rw [run_slice_l w _ A n c Try.underlying51 .i64 _ (by omega) (by omega)]
  rw [hE]
  simp [sliced, Result.andThen, e, sizeOf, typeInfo, hi, hs]
theorem own_base_ {w : World} {b1 b2 : Nat} {e : TypeId} {size n : Nat} {v : Value} {xs : List Value} (h : w.ownsRow b1 e size v n xs) (hb : b2 ≤ b1) : w.ownsRow b2 e size v n xs := h.mono_ hb
theorem drop_gk {D : List KX} {n : Nat} (hn : 0 < n) (h : n ≤ D.length) : D.drop (n - 1) = gk D (n - 1) :: D.drop n := by
  have := gk_drop (D := D) (q := n - 1) (by omega)
  rw [Nat.sub_add_cancel (by omega)] at this
  exact this
theorem gtr_yes {x y : ByteArray} (h : ltS x y = true) : Op.bytesLess y.toList x.toList = false ∧ (y.toList == x.toList) = false := by
  refine ⟨by rw [← ltS_less]; exact ltS_asym h, ?_⟩
  rw [beq_eq_false_iff_ne, ByteArray.toList_eq, ByteArray.toList_eq]
  intro e
  rw [show x = y from (ByteArray.ext (Array.toList_inj.1 e)).symm, ltS_irr] at h
  cases h
theorem gtr_no {x y : ByteArray} (h : ltS x y = false) : ∃ p q : Bool, Op.bytesLess y.toList x.toList = p ∧ (y.toList == x.toList) = q ∧ (!p && !q) = false := by
  refine ⟨_, _, rfl, rfl, ?_⟩
  cases hp : Op.bytesLess y.toList x.toList
  · rw [← ltS_less] at hp
    have := ltS_anti h hp
    subst this
    simp
  · rfl
theorem last_gk {D : List KX} {n : Nat} (hn : 0 < n) (h : n ≤ D.length) : (D.take n).getLast? = some (gk D (n - 1)) := by
  have e : D.take n = D.take (n - 1) ++ [gk D (n - 1)] := by
    have := gk_snoc (X := D) (j := n - 1) (by omega)
    rw [Nat.sub_add_cancel (by omega)] at this
    exact this
  rw [e]; simp
def RetRDrain (w : World) (g room : Nat) (L : List KX) (e : Ending) (w' : World) : Prop := ∃ A c o, e = .returned (.slice A o.length c) ∧ SrtK o ∧ (∀ k, sel o k = sel L k) ∧ o.length = L.length ∧ Kx w' w'.heap.size A o ∧ RB w' g room [] ∧ Only g w w'
set_option maxRecDepth 100000 in
set_option maxHeartbeats 6400000 in
theorem rdrain_calls (w : World) {g room : Nat} {L : List KX} (h : RB w g room L) (hL : L.length ≤ 500000) :
    Calls Try.prog 24 #[.pointer (some ⟨g, 0, none⟩)] w (RetRDrain w g room L) := by
  obtain ⟨A0, c0, hb, hc1, hc2, hk, hne⟩ := h
  have HB := Lib.hid hb
  have HK := Lib.hid hk
  have g0 : w.cell? ⟨g, 0, none⟩ = some (.slice A0 L.length c0) := hb.cell 0
  have hgl := hb.lt
  have n0 := World.new_ne w ⟨g, 0, none⟩ g0
  clear hb hk hne
  go_enter Try.func24, Try.ntmps24
  go_wp2
  go_loopw [3, 14] (fun va vi wr => ∃ (j : Nat) (A : Option Addr) (c : Nat) (D : List KX), j ≤ L.length ∧ vi = .int .i64 (j : Int) ∧ va = .slice A j c ∧ j ≤ c ∧ Hid (D.length = j) ∧ Hid (SrtK D) ∧ Hid (∀ k, sel D k = sel (L.take j) k) ∧ Hid (wr.ownsRow w.heap.size 61 2 (.slice A j c) j (kxc D)) ∧ Hid (Below w.heap.size w wr)) (fun _ vi _ => L.length - (intOf vi).toNat)
  case atStart => exact ⟨0, _, _, [], Nat.zero_le _, rfl, rfl, Nat.zero_le _, Lib.hid rfl, Lib.hid List.Pairwise.nil, Lib.hid (fun k => rfl), Lib.hid (World.ownsRow_made w #[] 0 (Nat.le_refl _) (Nat.zero_le _) rfl), Lib.hid ((Below.refl _ _).alloc (Nat.le_refl _) _)⟩
  case round =>
    obtain ⟨j, A, c, D, hj, rfl, rfl, hjc, HLn, HSR, HSE, HO, HW⟩ := hrel
    obtain ⟨wo, rfl⟩ : ∃ wo : World, wo = wr := ⟨_, rfl⟩
    have hso := HW.out.size
    by_cases hlt : j < L.length
    · obtain ⟨b, o, e, hbl, hc⟩ := rd_cells (Reads.below HK.out HW.out) (by omega)
      obtain ⟨x0, x1⟩ := hc j hlt
      have i0 : (0 : Int) ≤ (j : Int) := by omega
      have i9 : (j : Int) < (L.length : Int) := by omega
      have HT := Lib.hid (gk_snoc hlt)
      clear hc
      subst e
      generalize gk L j = x at *
      go_wp2
      have hb3 := (Below.refl wo.heap.size wo).alloc (Nat.le_refl _) (.cells #[.string x.1, .int .i64 x.2] 61)
      have HX3 := Lib.hid (Blk.new wo 61 #[.string x.1, .int .i64 x.2])
      have HW3 := Lib.hid (HW.out.trans (hb3.mono hso))
      have HO3 := Lib.hid (own_below HO.out hb3)
      have hs3 : wo.heap.size < (wo.alloc (.cells #[.string x.1, .int .i64 x.2] 61)).heap.size := by simp
      have HR3 := Lib.hid ((Reads.of_own HO.out).below hb3)
      clear hb3 x0 x1 HO HW
      generalize wo.alloc (.cells #[.string x.1, .int .i64 x.2] 61) = w3 at *
      generalize wo.heap.size = gx at *
      have hsw3 := HW3.out.size
      go_loopw [6] (fun vn wx => ∃ n : Nat, n ≤ j ∧ vn = .int .i64 (n : Int) ∧ Hid (∀ y ∈ D.drop n, ltS x.1 y.1 = true) ∧ Hid (Below w3.heap.size w3 wx)) (fun vn _ => (intOf vn).toNat)
      case atStart => exact ⟨j, Nat.le_refl _, rfl, Lib.hid (by rw [List.drop_of_length_le (by rw [HLn.out]; exact Nat.le_refl _)]; simp), Lib.hid (Below.refl _ _)⟩
      case round =>
        obtain ⟨n, hnj, rfl, HQ, HW4⟩ := hrel
        obtain ⟨wi, rfl⟩ : ∃ wi : World, wi = wr := ⟨_, rfl⟩
        have hs4 := HW4.out.size
        have z0 : wi.cell? ⟨gx, 0, none⟩ = some (.string x.1) := (HX3.out.below HW4.out hs3).cell 0
        by_cases hn0 : 0 < n
        · have d0 : decide (0 < (n : Int)) = true := dct (by omega)
          obtain ⟨b4, o4, e4, hb4, hc4⟩ := (HR3.out.below (HW4.out.mono (by omega))).2 (by omega)
          obtain ⟨q0, -⟩ := kxc_get (l := D) (i := n - 1) (by rw [HLn.out]; omega)
          have y0 := hc4 ((n - 1) * 2) _ q0
          have HDG := Lib.hid (drop_gk (D := D) hn0 (by rw [HLn.out]; exact hnj))
          have HLG := Lib.hid (last_gk (D := D) hn0 (by rw [HLn.out]; exact hnj))
          have i1 : IntKind.i64.wrap ((n : Int) - 1) = (n : Int) - 1 := IntWalk.i64_in _ (by omega)
          have i2 : ((n : Int) - 1).toNat = n - 1 := by omega
          have i3 : (0 : Int) ≤ (n : Int) - 1 := by omega
          have i4 : (1 : Int) ≤ (n : Int) := by omega
          have i5 : (n : Int) - 1 < (j : Int) := by omega
          clear hc4 q0
          subst e4
          generalize gk D (n - 1) = y at *
          cases hlc : ltS x.1 y.1
          · obtain ⟨p, q, hp, hq, hpq⟩ := gtr_no hlc
            have HLQ : Hid (∀ z, (D.take n).getLast? = some z → ltS x.1 z.1 = false) := Lib.hid fun z hz => by rw [HLG.out] at hz; injection hz with hz; rw [← hz]; exact hlc
            clear hlc
            go_wp2_with fail
            go_quiet (fail)
            clear i1 i2 i3 i4 i5 y0 hp hq hpq
            have HWd := Lib.hid (below_drewN_ HW4.out nq)
            generalize wi.drewN nq = w5 at *
            have hs5 := HWd.out.size
            have HR5 := Lib.hid (HR3.out.below (HWd.out.mono (Nat.le_of_lt hs3)))
            have HX5 := Lib.hid (HX3.out.below HWd.out hs3)
            have hg5 : gx < w5.heap.size := by omega
            have HIS : Hid (SrtK (D.take n ++ [x] ++ D.drop n)) := Lib.hid (ins_srt (by rw [List.take_append_drop]; exact HSR.out) HQ.out HLQ.out)
            have HIK : Hid (∀ k, sel (D.take n ++ [x] ++ D.drop n) k = sel (L.take (j + 1)) k) := Lib.hid fun k => by rw [ins_sel HQ.out, List.take_append_drop, HSE.out, HT.out, sel_app]
            have HIL : Hid ((D.take n ++ [x] ++ D.drop n).length = j + 1) := Lib.hid (by simp only [List.length_append, List.length_take, List.length_drop, List.length_cons, List.length_nil, HLn.out]; omega)
            have HWw5 := Lib.hid (HW3.out.trans (HWd.out.mono hsw3))
            clear z0
            go_wp2_with (at_builtin; go_must (refine wpList_append_sl _ rfl (.tmp 35) (.tmp 38) _ rfl w5.heap.size 61 _ 2 24 Try.underlying51 Try.infoKr rfl (by omega) _ _ _ rfl (World.ownsRow_made w5 #[] 0 (Nat.le_refl _) (Nat.zero_le _) rfl) gx _ n c (kxc (D.take n)) rfl (by have := HR5.out.take hnj; rw [kxc_take] at this; exact this.below ((Below.refl _ _).alloc (by omega) _)) (kxc_one _) (by unfold maxLen; omega) (by omega) (by simp) ?_))
            intro A6 c6 w6 hc61 hc62 hrd6 hbel6 hown6 _ _
            have hb56 : Below w5.heap.size w5 w6 := ((Below.refl _ _).alloc (Nat.le_refl _) _).trans hbel6
            have HO6 : Hid (w6.ownsRow w5.heap.size 61 2 (.slice A6 n c6) n (kxc (D.take n))) := Lib.hid (by simpa using hown6)
            have hs6 := hb56.size
            have z0 : w6.cell? ⟨gx, 0, none⟩ = some (.string x.1) := (HX5.out.below hb56 hg5).cell 0
            have z1 : w6.cell? ⟨gx, 1, none⟩ = some (.int .i64 x.2) := (HX5.out.below hb56 hg5).cell 1
            have HB56 := Lib.hid hb56
            clear hown6 hrd6 hbel6 hb56 hc61 hc62
            go_wp2_with (at_builtin; go_must (refine wpList_append_sl _ rfl (.tmp 40) (.tmp 42) _ rfl w5.heap.size 61 _ 2 24 Try.underlying51 Try.infoKr rfl (by omega) _ _ _ rfl (HO6.out.alloc _) (w6.heap.size + 1) _ 1 1 [.string x.1, .int .i64 x.2] rfl (Reads.made (n := 1) (size := 2) w6 _ _ rfl) (by simp [Value.oneCell']) (by unfold maxLen; omega) (by omega) (by simp; omega) ?_))
            intro A7 c7 w7 hc71 hc72 hrd7 hbel7 hown7 _ _
            have hb57 : Below w5.heap.size w5 w7 := (HB56.out.alloc (by omega) _).trans hbel7
            have hs7 := hb57.size
            have hcut := Reads.cutA_ (k := n) (cap := c) (n := j) (HR5.out.below (hb57.mono (Nat.le_of_lt hg5))) hnj hjc
            have hrun := fun W => slice2_at W (some ⟨b4, o4, none⟩) j c n hnj hjc
            have HO7 := Lib.hid hown7
            have HB57 := Lib.hid hb57
            rw [kxc_drop] at hcut
            generalize cutA (some ⟨b4, o4, none⟩) c n 2 = AC at *
            have HCUT := Lib.hid hcut
            clear hown7 hrd7 hbel7 hb57 hc71 hc72 hcut z0 z1
            go_wp2_with (at_builtin; go_must (refine wpList_append_sl _ rfl (.tmp 44) (.tmp 47) _ rfl w5.heap.size 61 _ 2 24 Try.underlying51 Try.infoKr rfl (by omega) _ _ _ rfl HO7.out gx AC (j - n) (c - n) (kxc (D.drop n)) rfl HCUT.out (kxc_one _) (by unfold maxLen; omega) (by omega) (by omega) ?_))
            intro A8 c8 w8 hc81 hc82 hrd8 hbel8 hown8 _ _
            have e8 : n + 1 + (j - n) = j + 1 := by omega
            rw [e8] at hown8 hc81 ⊢
            have HO8 : Hid (w8.ownsRow w.heap.size 61 2 (.slice A8 (j + 1) c8) (j + 1) (kxc (D.take n ++ [x] ++ D.drop n))) := Lib.hid (by
              rw [List.append_assoc, kxc_app]
              exact own_base_ hown8 (by omega))
            have HW8 := Lib.hid (HWw5.out.trans ((HB57.out.trans hbel8).mono (by omega)))
            clear hown8 hrd8 hbel8 e8 hrun hc82
            go_wp2
            go_roundw
            case rel => exact ⟨j + 1, A8, c8, _, by omega, by go_num, rfl, hc81, HIL, HIS, HIK, HO8, HW8⟩
            case measure => simp [intOf]; omega
          · obtain ⟨hp, hq⟩ := gtr_yes hlc
            have HQ2 : Hid (∀ z ∈ D.drop (n - 1), ltS x.1 z.1 = true) := Lib.hid fun z hz => by
              rw [HDG.out] at hz
              rcases List.mem_cons.1 hz with rfl | hz
              · exact hlc
              · exact HQ.out z hz
            clear hlc
            go_wp2_with fail
            go_quiet (fail)
            have HWd := Lib.hid (below_drewN_ HW4.out nq)
            clear i1 i2 i5 y0 hp hq
            go_wp2
            go_roundw
            case rel => exact ⟨n - 1, by omega, by go_num, HQ2, HWd⟩
            case measure => simp [intOf]; omega
        · have d0 : decide (0 < (n : Int)) = false := dcf (by omega)
          have HLQ : Hid (∀ z, (D.take n).getLast? = some z → ltS x.1 z.1 = false) := Lib.hid fun z hz => by
            obtain rfl : n = 0 := by omega
            simp at hz
          go_wp2_with fail
          go_quiet (fail)
          have HWd := Lib.hid (below_drewN_ HW4.out nq)
          generalize wi.drewN nq = w5 at *
          have hs5 := HWd.out.size
          have HR5 := Lib.hid (HR3.out.below (HWd.out.mono (Nat.le_of_lt hs3)))
          have HX5 := Lib.hid (HX3.out.below HWd.out hs3)
          have hg5 : gx < w5.heap.size := by omega
          have HIS : Hid (SrtK (D.take n ++ [x] ++ D.drop n)) := Lib.hid (ins_srt (by rw [List.take_append_drop]; exact HSR.out) HQ.out HLQ.out)
          have HIK : Hid (∀ k, sel (D.take n ++ [x] ++ D.drop n) k = sel (L.take (j + 1)) k) := Lib.hid fun k => by rw [ins_sel HQ.out, List.take_append_drop, HSE.out, HT.out, sel_app]
          have HIL : Hid ((D.take n ++ [x] ++ D.drop n).length = j + 1) := Lib.hid (by simp only [List.length_append, List.length_take, List.length_drop, List.length_cons, List.length_nil, HLn.out]; omega)
          have HWw5 := Lib.hid (HW3.out.trans (HWd.out.mono hsw3))
          clear z0
          go_wp2_with (at_builtin; go_must (refine wpList_append_sl _ rfl (.tmp 35) (.tmp 38) _ rfl w5.heap.size 61 _ 2 24 Try.underlying51 Try.infoKr rfl (by omega) _ _ _ rfl (World.ownsRow_made w5 #[] 0 (Nat.le_refl _) (Nat.zero_le _) rfl) gx _ n c (kxc (D.take n)) rfl (by have := HR5.out.take hnj; rw [kxc_take] at this; exact this.below ((Below.refl _ _).alloc (by omega) _)) (kxc_one _) (by unfold maxLen; omega) (by omega) (by simp) ?_))
          intro A6 c6 w6 hc61 hc62 hrd6 hbel6 hown6 _ _
          have hb56 : Below w5.heap.size w5 w6 := ((Below.refl _ _).alloc (Nat.le_refl _) _).trans hbel6
          have HO6 : Hid (w6.ownsRow w5.heap.size 61 2 (.slice A6 n c6) n (kxc (D.take n))) := Lib.hid (by simpa using hown6)
          have hs6 := hb56.size
          have z0 : w6.cell? ⟨gx, 0, none⟩ = some (.string x.1) := (HX5.out.below hb56 hg5).cell 0
          have z1 : w6.cell? ⟨gx, 1, none⟩ = some (.int .i64 x.2) := (HX5.out.below hb56 hg5).cell 1
          have HB56 := Lib.hid hb56
          clear hown6 hrd6 hbel6 hb56 hc61 hc62
          go_wp2_with (at_builtin; go_must (refine wpList_append_sl _ rfl (.tmp 40) (.tmp 42) _ rfl w5.heap.size 61 _ 2 24 Try.underlying51 Try.infoKr rfl (by omega) _ _ _ rfl (HO6.out.alloc _) (w6.heap.size + 1) _ 1 1 [.string x.1, .int .i64 x.2] rfl (Reads.made (n := 1) (size := 2) w6 _ _ rfl) (by simp [Value.oneCell']) (by unfold maxLen; omega) (by omega) (by simp; omega) ?_))
          intro A7 c7 w7 hc71 hc72 hrd7 hbel7 hown7 _ _
          have hb57 : Below w5.heap.size w5 w7 := (HB56.out.alloc (by omega) _).trans hbel7
          have hs7 := hb57.size
          have hcut := Reads.cutA_ (k := n) (cap := c) (n := j) (HR5.out.below (hb57.mono (Nat.le_of_lt hg5))) hnj hjc
          have hrun := fun W => slice2_at W A j c n hnj hjc
          have HO7 := Lib.hid hown7
          have HB57 := Lib.hid hb57
          rw [kxc_drop] at hcut
          generalize cutA A c n 2 = AC at *
          have HCUT := Lib.hid hcut
          clear hown7 hrd7 hbel7 hb57 hc71 hc72 hcut z0 z1
          go_wp2_with (at_builtin; go_must (refine wpList_append_sl _ rfl (.tmp 44) (.tmp 47) _ rfl w5.heap.size 61 _ 2 24 Try.underlying51 Try.infoKr rfl (by omega) _ _ _ rfl HO7.out gx AC (j - n) (c - n) (kxc (D.drop n)) rfl HCUT.out (kxc_one _) (by unfold maxLen; omega) (by omega) (by omega) ?_))
          intro A8 c8 w8 hc81 hc82 hrd8 hbel8 hown8 _ _
          have e8 : n + 1 + (j - n) = j + 1 := by omega
          rw [e8] at hown8 hc81 ⊢
          have HO8 : Hid (w8.ownsRow w.heap.size 61 2 (.slice A8 (j + 1) c8) (j + 1) (kxc (D.take n ++ [x] ++ D.drop n))) := Lib.hid (by
            rw [List.append_assoc, kxc_app]
            exact own_base_ hown8 (by omega))
          have HW8 := Lib.hid (HWw5.out.trans ((HB57.out.trans hbel8).mono (by omega)))
          clear hown8 hrd8 hbel8 e8 hrun hc82
          go_wp2
          go_roundw
          case rel => exact ⟨j + 1, A8, c8, _, by omega, by go_num, rfl, hc81, HIL, HIS, HIK, HO8, HW8⟩
          case measure => simp [intOf]; omega
    · obtain rfl : j = L.length := by omega
      rw [List.take_length] at HSE
      have HBo := Lib.hid (HB.out.below HW.out hgl)
      have g0 : wo.cell? ⟨g, 0, none⟩ = some (.slice A0 L.length c0) := HBo.out.cell 0
      have gf := HBo.out.frozen 0
      have HA2 : Hid (∀ a, A = some a → w.heap.size ≤ a.block) := Lib.hid fun a ha => (HO.out.lt a.block (by rw [ha]; rfl)).1
      go_wp2
      go_ret
      have hRB : RB (wo.setCell ⟨g, 0, none⟩ (.slice none 0 0)) g room [] := RB.put (A2 := none) (c2 := 0) (M := []) HBo.out rfl (Nat.le_refl _) (Nat.zero_le _) ⟨rfl, fun h => absurd h (by simp)⟩ (fun a ha => by cases ha)
      refine ⟨A, c, D, by rw [HLn.out]; rfl, HSR.out, HSE.out, HLn.out, ?_, hRB, (Only.of_below HW.out).setCell (.inl rfl) _⟩
      have hk : Reads (wo.setCell ⟨g, 0, none⟩ (.slice none 0 0)) wo.heap.size 2 A D.length (kxc D) := by
        have h3 := Reads.of_own HO.out
        rw [HLn.out]
        refine ⟨h3.1, fun hn => ?_⟩
        obtain ⟨b, off, e, hb, hc⟩ := h3.2 hn
        exact ⟨b, off, e, hb, fun i u hu => (World.cell?_setCell_other _ _ _ _ (fun e' => by injection e' with e1 _; have := HA2.out _ e; dsimp only at this; omega)).trans (hc i u hu)⟩
      have : Reads (wo.setCell ⟨g, 0, none⟩ (.slice none 0 0)) (wo.setCell ⟨g, 0, none⟩ (.slice none 0 0)).heap.size 2 A D.length (kxc D) := by simpa using hk
      exact this
end By
end Go.Proofs.Ytepfggfideianaa
