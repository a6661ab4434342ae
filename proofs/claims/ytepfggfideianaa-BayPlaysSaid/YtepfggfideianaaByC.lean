/- Put of a bay: all of these, if there is room for all (chapter 15). -/
import Derived.Test.YtepfggfideianaaProg
import Derived.Test.YtepfggfideianaaByB
namespace Go.Proofs.Ytepfggfideianaa
open Go.RowKit Go.Conc
namespace By

def fits (room : Nat) (L X : List KX) : Bool := decide (∀ x ∈ X, cnt (L ++ X) x.1 ≤ room)
theorem fits_no {room : Nat} {L X : List KX} {k : ByteArray} (h : ¬ cnt (L ++ X) k ≤ room) (hL : ∀ k, cnt L k ≤ room) : fits room L X = false := by
  refine decide_eq_false fun hf => ?_
  by_cases hk : ∃ x ∈ X, x.1 = k
  · obtain ⟨x, hx, rfl⟩ := hk
    exact h (hf x hx)
  · rw [cnt_app, cnt_zero (L := X) (fun x hx e => hk ⟨x, hx, e⟩)] at h
    exact h (hL k)
theorem fits_all {room : Nat} {L X : List KX} (h : fits room L X = true) (hL : ∀ k, cnt L k ≤ room) (k : ByteArray) : cnt (L ++ X) k ≤ room := by
  by_cases hk : ∃ x ∈ X, x.1 = k
  · obtain ⟨x, hx, rfl⟩ := hk
    exact of_decide_eq_true h x hx
  · rw [cnt_app, cnt_zero (L := X) (fun x hx e => hk ⟨x, hx, e⟩)]
    exact hL k
theorem gk_snoc {X : List KX} {j : Nat} (hj : j < X.length) : X.take (j + 1) = X.take j ++ [gk X j] := by
  rw [List.take_succ_eq_append_getElem hj, gk_eq hj]
/-- How many of each key there are. -/
structure More (X : List KX) (j : Nat) (M : List (ByteArray × Int)) : Prop where
  get : ∀ k, mget M k = if cnt (X.take j) k = 0 then none else some (cnt (X.take j) k : Int)
  len : M.length ≤ j
theorem More.start (X : List KX) : More X 0 [] := ⟨fun k => by simp [mget, cnt], Nat.le_refl _⟩
theorem mdel_len {κ β : Type} [DecidableEq κ] (l : List (κ × β)) (x : κ) : (mdel l x).length ≤ l.length := List.length_filter_le _ _
theorem mput_len {κ β : Type} [DecidableEq κ] (lt : κ → κ → Bool) (l : List (κ × β)) (x : κ) (v : β) : (mput lt l x v).length ≤ l.length + 1 := by
  unfold mput
  rw [(mins_perm _).length_eq, List.length_cons]
  have := mdel_len l x
  omega
theorem More.step {X : List KX} {j : Nat} {M : List (ByteArray × Int)} (h : More X j M) (hj : j < X.length) : More X (j + 1) (mput kS.lt M (gk X j).1 ((cnt (X.take j) (gk X j).1 : Int) + 1)) where
  get k := by
    rw [mget_mput, gk_snoc hj, cnt_app, cnt_one]
    by_cases e : (gk X j).1 = k
    · rw [if_pos e, if_pos e, if_neg (by omega), ← e]; rfl
    · rw [if_neg e, if_neg e, h.get k]; rfl
  len := by have := mput_len kS.lt M (gk X j).1 ((cnt (X.take j) (gk X j).1 : Int) + 1); have := h.len; omega
theorem More.elim {X : List KX} {j : Nat} {M : List (ByteArray × Int)} (h : More X j M) (k : ByteArray) : (mget M k).elim (.int .i64 0) (Value.int .i64) = .int .i64 (cnt (X.take j) k : Int) := by
  rw [h.get k]
  split
  · next e => rw [e]; rfl
  · rfl
theorem More.val {X : List KX} {M : List (ByteArray × Int)} (h : More X X.length M) (hn : Nd M) {k : ByteArray} {n : Int} (hm : (k, n) ∈ M) : n = (cnt X k : Int) := by
  have h1 := h.get k
  rw [mget_of_mem hn hm, List.take_length] at h1
  split at h1
  · cases h1
  · exact Option.some.inj h1
def RetPut (w : World) (B gb bm room : Nat) (L X : List KX) (b : Bool) (e : Ending) (w' : World) : Prop := ∃ m', e = .returned (.bool b) ∧ BayAt w' B gb bm room m' (if b = true then L ++ X else L) ∧ Below B w w' ∧ CK w w'
theorem RetPut.no {w w' : World} {B gb bm room : Nat} {m : List (ByteArray × Nat)} {L X : List KX} (hf : fits room L X = false) (h : BayAt w' B gb bm room m L) (hb : Below w.heap.size w w') (hB : B ≤ w.heap.size) : RetPut w B gb bm room L X (fits room L X) (.returned (.bool false)) w' :=
  ⟨m, by rw [hf], by rw [hf]; exact h, hb.mono hB, CK.of_below hb⟩
theorem RetPut.yes {w w' : World} {B gb bm room : Nat} {m : List (ByteArray × Nat)} {L X : List KX} (hf : fits room L X = true) (h : BayAt w' B gb bm room m (L ++ X)) (hb : Below B w w') (hc : CK w w') : RetPut w B gb bm room L X (fits room L X) (.returned (.bool true)) w' :=
  ⟨m, by rw [hf], by rw [hf]; exact h, hb, hc⟩
theorem fits_yes {room : Nat} {L X : List KX} {M : List (ByteArray × Int)} (h : More X X.length M) (hf : ∀ p ∈ M, p ∈ ([] : List (ByteArray × Int)) ∨ cnt (L ++ X) p.1 ≤ room) : fits room L X = true := by
  refine decide_eq_true fun x hx => ?_
  have h1 := h.get x.1
  rw [List.take_length, if_neg (by have := cnt_pos hx; omega)] at h1
  rcases hf _ (mget_mem h1) with h2 | h2
  · cases h2
  · exact h2
theorem zInt (w : World) : (zeroValue 3).run Try.prog w = .ok (.int .i64 0) w := by kernel_rfl

theorem quiet_left {P : Program} {f : FuncId} {args : Array Value} {w : World} {n : Nat} {v : Value}
    (h : Calls P f args (w.drewN n) fun e w' => e = .returned v ∧ w.drewN n = w') : Calls P f args (w.drewN n) fun e w'' => e = .returned v ∧ ∃ m, w'' = w.drewN m :=
  h.mono fun _ _ ⟨he, hm⟩ => ⟨he, n, hm.symm⟩
/-- The one cell of a key's box; nil: it has none. -/
def boxc (m : List (ByteArray × Nat)) (k : ByteArray) : Value := .chan (mget m k)
theorem boxc_elim (m : List (ByteArray × Nat)) (k : ByteArray) : (mget m k).elim (.agg #[.chan none]) evB = .agg #[boxc m k] := by
  unfold boxc
  cases mget m k <;> rfl
theorem boxLen (w : World) {B gb bm room gx : Nat} {m : List (ByteArray × Nat)} {L : List KX} {k : ByteArray} (h : BayAt w B gb bm room m L) (hb : Blk w gx 64 #[boxc m k]) :
    Calls Try.prog 12 #[.pointer (some ⟨gx, 0, none⟩)] w fun e w' => e = .returned (.int .i64 (cnt L k : Int)) ∧ w = w' := by
  unfold boxc at hb
  cases hm : mget m k with
  | none =>
    rw [hm] at hb
    rw [cnt_zero (L := L) (k := k) fun x hx e => by
      obtain ⟨p, hp, e'⟩ := h.held x hx
      exact mget_none.1 hm p hp (e'.trans e)]
    exact lenNone w hb
  | some g =>
    rw [hm] at hb
    rw [← que_len]
    exact len_calls w hb (h.ch _ (mget_mem hm))
set_option maxRecDepth 100000 in
set_option maxHeartbeats 3200000 in
theorem put_calls (w : World) {B gb bm room BX c : Nat} {A : Option Addr} {m : List (ByteArray × Nat)} {L X : List KX} (h : BayAt w B gb bm room m L) (hX : KXs w BX A X) (hBX : BX ≤ w.heap.size) (hr : 1 ≤ room) (hr2 : room ≤ 2048) (hn : X.length ≤ 1000000) (hL : L.length ≤ 1000000) :
    Calls Try.prog 19 #[.pointer (some ⟨gb, 0, none⟩), .slice A X.length c] w (RetPut w B gb bm room L X (fits room L X)) := by
  have HB := Lib.hid h
  have HX := Lib.hid hX
  have hmm := @run_makeMap Try.prog
  have HU := Lib.hid Try.underlying65
  have HU2 := Lib.hid Try.underlying68
  have hBw : B ≤ w.heap.size := Nat.le_of_lt (Nat.lt_of_le_of_lt h.bg h.lt_gb)
  clear h hX
  go_enter Try.func19, Try.ntmps19
  go_wp2
  have HM0 := Lib.hid (MapAt.new (kS) (Value.int .i64) w)
  have HW0 : Hid (Below w.heap.size w (w.alloc (.map #[] 0))) := Lib.hid ((Below.refl _ _).alloc (Nat.le_refl _) _)
  have hz0 : w.heap.size < (w.alloc (.map #[] 0)).heap.size := by simp
  generalize w.alloc (.map #[] 0) = w1 at *
  go_loopw [23] (fun i wr => ∃ (j : Nat) (M : List (ByteArray × Int)), j ≤ X.length ∧ i = .int .i64 (j : Int) ∧ Hid (MapAt kS (Value.int .i64) wr w.heap.size M) ∧ Hid (More X j M) ∧ Hid (Below w.heap.size w wr) ∧ w.heap.size < wr.heap.size) (fun i _ => X.length - (intOf i).toNat)
  case atStart => exact ⟨0, [], Nat.zero_le _, rfl, HM0, Lib.hid (More.start X), HW0, hz0⟩
  case round =>
    obtain ⟨j, M, hj, rfl, HM, HC, HW, hz⟩ := hrel
    obtain ⟨wo, rfl⟩ : ∃ wo : World, wo = wr := ⟨_, rfl⟩
    have HWs := HW.out.size
    by_cases hlt : j < X.length
    · have r1 := HX.out.below (HW.out.mono hBX)
      obtain ⟨bX, oX, eX, hbX, hcX⟩ := r1.cells (by omega)
      obtain ⟨x0, x1⟩ := hcX j hlt
      have i0 : (0 : Int) ≤ (j : Int) := by omega
      have i9 : (j : Int) < (X.length : Int) := by omega
      have HE := Lib.hid (HC.out.elim (gk X j).1)
      have HS := Lib.hid (HC.out.step hlt)
      have HOK : Hid ((kS).ok (gk X j).1) := Lib.hid (Nat.le_trans (HX.out.ok _ (gk_mem hlt)).1 (by unfold maxLen; omega))
      have hcl := cnt_le (X.take j) (gk X j).1
      have hc9 : cnt (X.take j) (gk X j).1 ≤ 1000000 := by rw [List.length_take] at hcl; omega
      have HLN := Lib.hid HC.out.len
      clear hcl hcX r1
      subst eX
      generalize hgx : gk X j = x at *
      obtain ⟨kx, vx⟩ := x
      dsimp only at *
      clear hgx
      generalize cnt (X.take j) kx = q at *
      go_wp2_with (first | (at_lookup; go_must (refine wpList_getv _ rfl _ _ rfl (HM.out.alloc _) HU2.out (zInt _) kx rfl rfl HOK.out _ HE.out ?_)) | (at_mapUpdate; go_must (refine wpList_put _ rfl _ _ _ rfl (HM.out.alloc _) HU2.out kx ((q : Int) + 1) rfl rfl rfl HOK.out (by have := HLN.out; unfold maxLen; omega) ?_)))
      intro w2 hm2 hg2 hs2
      have hb2 := ((Below.refl wo.heap.size wo).alloc (Nat.le_refl _) (.cells #[.string kx, .int .i64 vx] 47))
      have HM2 := Lib.hid hm2
      have HW2 : Hid (Below w.heap.size w w2) := Lib.hid ((HW.out.trans (hb2.mono HWs)).grown hg2 (by simp; omega) (by intro g hg; injection hg with hg; omega))
      have hz2 : w.heap.size < w2.heap.size := by omega
      clear hm2 hg2 hs2 hb2 x0 x1
      go_wp2
      go_roundw
      case rel => exact ⟨j + 1, _, by omega, by go_num, HM2, HS, HW2, hz2⟩
      case measure => simp [intOf]; omega
    · obtain rfl : j = X.length := by omega
      have HND := Lib.hid HM.out.nodup
      go_wp2_with (at_range; go_must (refine wpList_range wo rfl _ rfl HM.out HU2.out rfl ?_))
      intro w2 hr2' hg2 hs2
      have HR2 := Lib.hid hr2'
      have HW2 : Hid (Below w.heap.size w w2) := Lib.hid (HW.out.grown hg2 HWs (by intro g hg; cases hg))
      have hwo : w.heap.size < wo.heap.size := hz
      have hz2 : wo.heap.size < w2.heap.size := by omega
      clear hr2' hg2 hs2 HM HW
      have hsw := HWs
      generalize hri : wo.heap.size = ri at *
      clear hri
      go_wp2
      go_loopw [] (fun wr => ∃ (todo : List (ByteArray × Int)), Hid (RangeAt kS (Value.int .i64) wr w.heap.size ri M todo) ∧ Hid (∀ p ∈ M, p ∈ todo ∨ cnt (L ++ X) p.1 ≤ room) ∧ Hid (Below w.heap.size w wr) ∧ ri < wr.heap.size) (fun wr => wr.rangeLeft w.heap.size ri)
      case atStart => exact ⟨M, HR2, Lib.hid fun p hp => .inl hp, HW2, hz2⟩
      case round =>
        obtain ⟨todo, HR, HF, HW, hz⟩ := hrel
        obtain ⟨wi, rfl⟩ : ∃ wi : World, wi = wr := ⟨_, rfl⟩
        have hsi := HW.out.size
        go_wp2_with (at_next; go_must (refine wpList_next wi rfl _ rfl HR.out rfl ?_ ?_))
        · rintro rfl
          have HFY := Lib.hid (fits_yes HC.out HF.out)
          have HBi := Lib.hid (HB.out.below HW.out)
          have hWB : Below B w wi := HW.out.mono hBw
          have hWC : CK w wi := CK.of_below HW.out
          clear HF HR HW hj hlt HC HND
          go_wp2
          go_loopw [56] (fun i wr => ∃ (j : Nat) (m' : List (ByteArray × Nat)), j ≤ X.length ∧ i = .int .i64 (j : Int) ∧ Hid (BayAt wr B gb bm room m' (L ++ X.take j)) ∧ Hid (Below B w wr) ∧ Hid (CK w wr)) (fun i _ => X.length - (intOf i).toNat)
          case atStart => exact ⟨0, m, Nat.zero_le _, rfl, by simpa using HBi, Lib.hid hWB, Lib.hid hWC⟩
          case round =>
            obtain ⟨j, m', hj, rfl, HA, HW, HC⟩ := hrel
            obtain ⟨wj, rfl⟩ : ∃ wj : World, wj = wr := ⟨_, rfl⟩
            have hsj := HC.out.1
            by_cases hlt : j < X.length
            · have r1 : KXs wj BX A X := HC.out.reads HX.out.reads |> fun h => ⟨h, HX.out.ok⟩
              obtain ⟨bX, oX, eX, hbX, hcX⟩ := r1.cells (by omega)
              obtain ⟨x0, x1⟩ := hcX j hlt
              have i0 : (0 : Int) ≤ (j : Int) := by omega
              have i9 : (j : Int) < (X.length : Int) := by omega
              have HOK : Hid ((kS).ok (gk X j).1) := Lib.hid (Nat.le_trans (HX.out.ok _ (gk_mem hlt)).1 (by unfold maxLen; omega))
              have HT : Hid (L ++ X.take (j + 1) = L ++ X.take j ++ [gk X j]) := Lib.hid (by rw [List.append_assoc, gk_snoc hlt])
              have HRM : Hid (∀ k, cnt (L ++ X.take j ++ [gk X j]) k ≤ room) := Lib.hid fun k => by
                have := fits_all HFY.out HB.out.room k
                rw [List.append_assoc, ← gk_snoc hlt]
                refine Nat.le_trans ?_ this
                rw [cnt_app, cnt_app]
                have h2 := cnt_app (X.take (j + 1)) (X.drop (j + 1)) k
                rw [List.take_append_drop] at h2
                omega
              have HLL : Hid ((L ++ X.take j).length ≤ 2000000) := Lib.hid (by rw [List.length_append, List.length_take]; omega)
              clear r1 hcX
              subst eX
              generalize gk X j = x at *
              generalize L ++ X.take j = L' at *
              obtain ⟨kx, vx⟩ := x
              dsimp only at *
              cases hm : mget m' kx with
              | some g =>
                have HG := Lib.hid hm
                have HV : Hid ((mget m' kx).elim (.agg #[.chan none]) evB = .agg #[.chan (some g)]) := Lib.hid (by rw [hm]; rfl)
                have HI : Hid ((mget m' kx).isSome = true) := Lib.hid (by rw [hm]; rfl)
                clear hm
                go_wp2_with fail
                have hb5 := (Below.refl wj.heap.size wj).alloc (Nat.le_refl _) (.cells #[.string kx, .int .i64 vx] 47)
                have HA5 := Lib.hid (HA.out.below hb5)
                have HK5 := Lib.hid (Blk.new wj 47 #[.string kx, .int .i64 vx])
                have HW5 : Hid (Below B w _) := Lib.hid (HW.out.trans (hb5.mono (Nat.le_trans hBw hsj)))
                have HC5 : Hid (CK w _) := Lib.hid (HC.out.trans (CK.of_below hb5))
                have hs5 : wj.heap.size < (wj.alloc (.cells #[.string kx, .int .i64 vx] 47)).heap.size := by simp
                clear hb5
                generalize wj.alloc (.cells #[.string kx, .int .i64 vx] 47) = w5 at *
                generalize wj.heap.size = g5 at *
                have Hkeep : Hid (∀ W, Below w5.heap.size w5 W → W.cell? ⟨g5, 0, none⟩ = some (.string kx) ∧ W.cell? ⟨gb, 1, none⟩ = some (.map (some bm)) ∧ (Instr.lookup 65 (.map (some bm)) (.string kx) true).run Try.prog W = .ok (.tuple #[.agg #[.chan (some g)], .bool true]) W) := Lib.hid fun W hW => ⟨(HK5.out.below hW HK5.out.lt).cell 0, (HA5.out.blk.below hW HA5.out.lt_gb).cell 1, (HA5.out.map.below hW HA5.out.map.lt_).ask_at HU.out (zBox _) HOK.out HV.out HI.out⟩
                have hB5 : B ≤ w5.heap.size := Nat.le_trans hBw (Nat.le_trans hsj (Nat.le_of_lt hs5))
                clear x0 x1 HA HW HC HV HI
                go_region_held3 (fun w' => w'.cell? ⟨g5, 0, none⟩ = some (.string kx) ∧ w'.cell? ⟨gb, 1, none⟩ = some (.map (some bm)) ∧ (Instr.lookup 65 (.map (some bm)) (.string kx) true).run Try.prog w' = .ok (.tuple #[.agg #[.chan (some g)], .bool true]) w') (exact Hkeep.out _ (by first | exact below_drewN_ (Below.refl _ _) 1 | exact ((below_drewN_ (Below.refl _ _) 1).alloc (Nat.le_refl _) _) | exact (((below_drewN_ (Below.refl _ _) 1).alloc (Nat.le_refl _) _).setCell (Nat.le_refl _) _))) (fail)
                all_goals
                  have hb6 : Below w5.heap.size w5 (w5.alloc (.cells #[.chan (some g)] 64)).drew := below_drewN_ ((Below.refl _ _).alloc (Nat.le_refl _) _) 1
                  have HA6 := Lib.hid (HA5.out.below hb6)
                  have HB6 : Hid (Blk (w5.alloc (.cells #[.chan (some g)] 64)).drew w5.heap.size 64 #[.chan (some g)]) := Lib.hid (Blk.new _ _ _)
                  have HW6 := Lib.hid (HW5.out.trans (hb6.mono hB5))
                  have HC6 := Lib.hid (HC5.out.trans (CK.of_below hb6))
                  have HK6 := Lib.hid (HK5.out.below hb6 hs5)
                  have hs6 : w5.heap.size < (w5.alloc (.cells #[.chan (some g)] 64)).drew.heap.size := by show _ < (w5.alloc _).heap.size; simp
                  clear hb6 HK5 HA5 HW5 HC5 Hkeep
                  generalize (w5.alloc (.cells #[.chan (some g)] 64)).drew = w6 at *
                  generalize w5.heap.size = g6 at *
                  have k1 := HK6.out.cell 1
                  go_wp2_with fail
                  refine (put_ok w6 vx HB6.out (HA6.out.ch _ (mget_mem HG.out)) (by rw [que_len]; have := HRM.out kx; rw [cnt_app, cnt_one, if_pos rfl] at this; dsimp only; omega)).mono ?_
                  rintro e w7 ⟨rfl, hc7, ho7⟩
                  have HA7 := Lib.hid (HA6.out.put (x := (kx, vx)) HG.out ho7 hc7 HRM.out)
                  have HW7 := Lib.hid (HW6.out.trans (ho7.below (HA6.out.bc _ (mget_mem HG.out)) (by omega)))
                  have HC7 := Lib.hid (HC6.out.trans (CK.chan ho7 (HA6.out.ch _ (mget_mem HG.out))))
                  rw [← HT.out] at HA7
                  clear hc7 ho7 k1 HA6 HB6 HW6 HC6 HK6
                  go_wp2
                  go_roundw
                  case rel => exact ⟨j + 1, m', by omega, by go_num, HA7, HW7, HC7⟩
                  case measure => simp [intOf]; omega
              | none =>
                have HG := Lib.hid hm
                have HV : Hid ((mget m' kx).elim (.agg #[.chan none]) evB = .agg #[.chan none]) := Lib.hid (by rw [hm]; rfl)
                have HI : Hid ((mget m' kx).isSome = false) := Lib.hid (by rw [hm]; rfl)
                clear hm
                go_wp2_with fail
                have hb5 := (Below.refl wj.heap.size wj).alloc (Nat.le_refl _) (.cells #[.string kx, .int .i64 vx] 47)
                have HA5 := Lib.hid (HA.out.below hb5)
                have HK5 := Lib.hid (Blk.new wj 47 #[.string kx, .int .i64 vx])
                have HW5 : Hid (Below B w _) := Lib.hid (HW.out.trans (hb5.mono (Nat.le_trans hBw hsj)))
                have HC5 : Hid (CK w _) := Lib.hid (HC.out.trans (CK.of_below hb5))
                have hs5 : wj.heap.size < (wj.alloc (.cells #[.string kx, .int .i64 vx] 47)).heap.size := by simp
                clear hb5
                generalize wj.alloc (.cells #[.string kx, .int .i64 vx] 47) = w5 at *
                generalize wj.heap.size = g5 at *
                have Hkeep : Hid (∀ W, Below w5.heap.size w5 W → W.cell? ⟨g5, 0, none⟩ = some (.string kx) ∧ W.cell? ⟨gb, 1, none⟩ = some (.map (some bm)) ∧ (Instr.lookup 65 (.map (some bm)) (.string kx) true).run Try.prog W = .ok (.tuple #[.agg #[.chan none], .bool false]) W) := Lib.hid fun W hW => ⟨(HK5.out.below hW HK5.out.lt).cell 0, (HA5.out.blk.below hW HA5.out.lt_gb).cell 1, (HA5.out.map.below hW HA5.out.map.lt_).ask_at HU.out (zBox _) HOK.out HV.out HI.out⟩
                have hB5 : B ≤ w5.heap.size := Nat.le_trans hBw (Nat.le_trans hsj (Nat.le_of_lt hs5))
                clear x0 x1 HA HW HC HV HI
                go_region_held3 (fun w' => w'.cell? ⟨g5, 0, none⟩ = some (.string kx) ∧ w'.cell? ⟨gb, 1, none⟩ = some (.map (some bm)) ∧ (Instr.lookup 65 (.map (some bm)) (.string kx) true).run Try.prog w' = .ok (.tuple #[.agg #[.chan none], .bool false]) w') (exact Hkeep.out _ (by first | exact below_drewN_ (Below.refl _ _) 1 | exact ((below_drewN_ (Below.refl _ _) 1).alloc (Nat.le_refl _) _) | exact (((below_drewN_ (Below.refl _ _) 1).alloc (Nat.le_refl _) _).setCell (Nat.le_refl _) _))) (fail)
                all_goals
                  have hb6 : Below w5.heap.size w5 (w5.alloc (.cells #[.chan none] 64)).drew := below_drewN_ ((Below.refl _ _).alloc (Nat.le_refl _) _) 1
                  have HA6 := Lib.hid (HA5.out.below hb6)
                  have HB6 : Hid (Blk (w5.alloc (.cells #[.chan none] 64)).drew w5.heap.size 64 #[.chan none]) := Lib.hid (Blk.new _ _ _)
                  have HW6 := Lib.hid (HW5.out.trans (hb6.mono hB5))
                  have HC6 := Lib.hid (HC5.out.trans (CK.of_below hb6))
                  have HK6 := Lib.hid (HK5.out.below hb6 hs5)
                  have hs6 : w5.heap.size < (w5.alloc (.cells #[.chan none] 64)).drew.heap.size := by show _ < (w5.alloc _).heap.size; simp
                  clear hb6 HK5 HA5 HW5 HC5 Hkeep
                  generalize (w5.alloc (.cells #[.chan none] 64)).drew = w6 at *
                  generalize w5.heap.size = g6 at *
                  have b0 : w6.cell? ⟨gb, 0, none⟩ = some (.int .i64 (room : Int)) := HA6.out.blk.cell 0
                  have HFW := Lib.hid (HA6.out.few)
                  go_wp2_with fail
                  refine (new_ok w6 room hr hr2).mono ?_
                  rintro e w7 ⟨rfl, hbn, hcn, hb7⟩
                  have HA7 := Lib.hid (HA6.out.below hb7)
                  have HW7 := Lib.hid (HW6.out.trans (hb7.mono (by omega)))
                  have HC7 := Lib.hid (HC6.out.trans (CK.of_below hb7))
                  have HB7 := Lib.hid (HB6.out.below hb7 hs6)
                  have HK7 := Lib.hid (HK6.out.below hb7 (by omega))
                  have HFR : Hid (∀ p ∈ m', p.2 ≠ w6.heap.size) := Lib.hid fun p hp e => by have := (HA6.out.ch p hp).lt; omega
                  have HCN := Lib.hid hcn
                  have n0 := hbn.cell 0
                  have q0 := HB7.out.cell 0
                  have qf := HB7.out.frozen 0
                  have hs7 := hb7.size
                  have hB6 : B ≤ w6.heap.size := by omega
                  clear hbn hcn hb7 b0 HA6 HW6 HC6 HB6 HK6
                  generalize w6.heap.size = gn at *
                  go_wp2_with fail
                  have HA8 := Lib.hid (HA7.out.cells (g := g6) ((Only.refl g6 w7).setCell (p := ⟨g6, 0, none⟩) (.inl rfl) (.chan (some gn))) HB7.out (fun e => by have := HA7.out.blk; rw [e] at this; exact Blk.ne_ this HB7.out (by decide) rfl))
                  have HB8 : Hid (Blk (w7.setCell ⟨g6, 0, none⟩ (.chan (some gn))) g6 64 #[.chan (some gn)]) := Lib.hid (HB7.out.set_ 0 (.chan (some gn)))
                  have HK8 := Lib.hid (HK7.out.far (p := ⟨g6, 0, none⟩) (by show g5 ≠ g6; omega) (.chan (some gn)))
                  have HC8 : Hid (Ch (w7.setCell ⟨g6, 0, none⟩ (.chan (some gn))) gn room []) := Lib.hid (HCN.out.only (g := g6) ((Only.refl g6 w7).setCell (.inl rfl) _) (by omega))
                  have HW8 := Lib.hid (HW7.out.setCell (p := ⟨g6, 0, none⟩) (by show B ≤ g6; omega) (.chan (some gn)))
                  have HD8 := Lib.hid (HC7.out.setCell (p := ⟨g6, 0, none⟩) (by show w.heap.size ≤ g6; omega) (.chan (some gn)))
                  clear HA7 HW7 HC7 HB7 HK7 HCN q0 qf n0 hs7
                  generalize w7.setCell ⟨g6, 0, none⟩ (.chan (some gn)) = w8 at *
                  have k0 : w8.cell? ⟨g5, 0, none⟩ = some (.string kx) := HK8.out.cell 0
                  have t0 : w8.cell? ⟨g6, 0, none⟩ = some (.chan (some gn)) := HB8.out.cell 0
                  have b1 : w8.cell? ⟨gb, 1, none⟩ = some (.map (some bm)) := HA8.out.blk.cell 1
                  go_still_tail 7, (by kernel_rfl)
                  go_wp2_with (at_mapUpdate; go_must (refine wpList_put _ rfl _ _ _ rfl (HA8.out.map.drewN _) HU.out kx gn rfl rfl rfl HOK.out (by have h1 := HFW.out; have h2 := HLL.out; unfold maxLen; omega) ?_))
                  intro w9 hm9 hg9' hs9
                  have hg9 : w8.grownBy w9 (some bm) := ⟨hg9'.os, hg9'.tape, hg9'.output, hg9'.size, hg9'.block⟩
                  have HB9 := Lib.hid (HB8.out.grown hg9 (fun e => by injection e with e; exact blk_ne_map HB8.out HA8.out.map e))
                  have HK9 := Lib.hid (HK8.out.grown hg9 (fun e => by injection e with e; exact blk_ne_map HK8.out HA8.out.map e))
                  have HC9 : Hid (Ch w9 gn room []) := Lib.hid (HC8.out.only hg9 (ch_ne_map HC8.out HA8.out.map))
                  have h8 := HK8.out.lt
                  have HW9 := Lib.hid (HW8.out.grown hg9 (by omega) (by intro g hg; injection hg with hg; have := HA8.out.bb; omega))
                  have HD9 := Lib.hid (HD8.out.trans (CK.map hg9 HA8.out.map))
                  have HM9 := Lib.hid hm9
                  have HG9 := Lib.hid hg9
                  have h9 : B ≤ w9.heap.size := by omega
                  have k1 : w9.cell? ⟨g5, 1, none⟩ = some (.int .i64 vx) := HK9.out.cell 1
                  clear hm9 hg9' hg9 hs9 k0 t0 b1 HB8 HK8 HC8 HW8 HD8
                  go_wp2_with fail
                  refine (put_ok w9 vx HB9.out HC9.out (by simp; omega)).mono ?_
                  rintro e w10 ⟨rfl, hc10, ho10⟩
                  have HA10 := Lib.hid (HA8.out.add (x := (kx, vx)) HG.out HG9.out HM9.out HC9.out HFR.out hB6 ho10 hc10 HRM.out)
                  have HW10 := Lib.hid (HW9.out.trans (ho10.below hB6 h9))
                  have HD10 := Lib.hid (HD9.out.trans (CK.chan ho10 HC9.out))
                  rw [← HT.out] at HA10
                  clear hc10 ho10 k1
                  go_wp2
                  go_roundw
                  case rel => exact ⟨j + 1, _, by omega, by go_num, HA10, HW10, HD10⟩
                  case measure => simp [intOf]; omega
            · obtain rfl : j = X.length := by omega
              rw [List.take_length] at HA
              go_wp2
              go_ret
              exact RetPut.yes HFY.out HA.out HW.out HC.out
        · intro k n w3 hm hr3 hlt3 hg3 hs3 hen
          have hb3 : Below w.heap.size w w3 := HW.out.grown hg3 hsi (by intro g hg; injection hg with hg; omega)
          have HB3 := Lib.hid (HB.out.below hb3)
          have hmM := HR.out.sub.subset hm
          obtain rfl : n = (cnt X k : Int) := HC.out.val HND.out hmM
          have HOK : Hid ((kS).ok k) := Lib.hid (HR.out.map.ok _ hmM)
          have HE := Lib.hid (boxc_elim m k)
          have HR3 := Lib.hid hr3
          have HW3 := Lib.hid hb3
          have HLT := Lib.hid hlt3
          have hz3 : ri < w3.heap.size := by omega
          have hs3' : w.heap.size ≤ w3.heap.size := hb3.size
          have c1 := HB3.out.blk.cell 1
          have c0 := HB3.out.blk.cell 0
          have HF2 : cnt (L ++ X) k ≤ room → Hid (∀ p ∈ M, p ∈ mdel todo k ∨ cnt (L ++ X) p.1 ≤ room) := fun hk => Lib.hid fun p hp => by
            by_cases e : p.1 = k
            · exact .inr (by rw [e]; exact hk)
            · rcases HF.out p hp with h | h
              · exact .inl (mem_mdel.2 ⟨h, e⟩)
              · exact .inr h
          have HFN : ¬ cnt (L ++ X) k ≤ room → Hid (fits room L X = false) := fun hk => Lib.hid (fits_no hk HB.out.room)
          have hcr := HB.out.room k
          have hcx := cnt_le X k
          have hca := cnt_app L X k
          rw [hca] at HF2 HFN
          rw [show kS.val k = .string k from rfl] at hen ⊢
          have HLEN : Hid (∀ (W : World) (gx : Nat), Below w3.heap.size w3 W → Blk W gx 64 #[boxc m k] → Calls Try.prog 12 #[.pointer (some ⟨gx, 0, none⟩)] W fun e w' => e = .returned (.int .i64 (cnt L k : Int)) ∧ W = w') := Lib.hid fun W gx hW hb => boxLen W (HB3.out.below hW) hb
          clear hm hr3 hlt3 hg3 hs3 hb3 hmM hca HF
          unfold boxc at HE HLEN
          generalize cnt X k = a at *
          generalize cnt L k = b at *
          go_wp2_with (at_lookup; go_must (refine wpList_getv _ rfl _ _ rfl HB3.out.map HU.out (zBox _) k rfl rfl HOK.out _ HE.out ?_))
          have hbx := Blk.new w3 64 #[.chan (mget m k)]
          have hb4 := (Below.refl w3.heap.size w3).alloc (Nat.le_refl _) (.cells #[.chan (mget m k)] 64)
          have HR4 := Lib.hid (HR3.out.below hb4 (by omega) hz3)
          have HW4 : Hid (Below w.heap.size w (w3.alloc (.cells #[.chan (mget m k)] 64))) := Lib.hid (HW3.out.trans (hb4.mono hs3'))
          have c04 : (w3.alloc (.cells #[.chan (mget m k)] 64)).cell? ⟨gb, 0, none⟩ = some (.int .i64 (room : Int)) := (HB3.out.blk.alloc _).cell 0
          have HQ : Hid (∀ n, Calls Try.prog 12 #[.pointer (some ⟨w3.heap.size, 0, none⟩)] ((w3.alloc (.cells #[.chan (mget m k)] 64)).drewN n) fun e w' => e = .returned (.int .i64 (b : Int)) ∧ (w3.alloc (.cells #[.chan (mget m k)] 64)).drewN n = w') := Lib.hid fun n => HLEN.out _ _ (below_drewN_ hb4 n) (hbx.drewN n)
          have hz4 : ri < (w3.alloc (.cells #[.chan (mget m k)] 64)).heap.size := by simp; omega
          clear hbx hb4 HLEN c0 c1 HE
          generalize w3.alloc (.cells #[.chan (mget m k)] 64) = w4 at *
          generalize w3.heap.size = gx at *
          have wr1 : IntKind.i64.wrap ((room : Int) - (b : Int)) = (room : Int) - (b : Int) := by rw [IntKind.wrap_i64]; omega
          by_cases hk : b + a ≤ room
          · have hd : decide ((room : Int) - (b : Int) < (a : Int)) = false := dcf (by omega)
            have HF4 := HF2 hk
            clear HFN HF2
            go_quiet ((go_at_call 12; exact quiet_left (HQ.out _)))
            have HRd := Lib.hid (HR4.out.drewN nq)
            have HWd := Lib.hid (below_drewN_ HW4.out nq)
            have hzd : ri < (w4.drewN nq).heap.size := hz4
            have HO := Lib.hid HR.out.left_eq
            have HN := Lib.hid HRd.out.left_eq
            go_wp2
            go_roundw
            case rel => exact ⟨_, HRd, HF4, HWd, hzd⟩
            case measure => rw [HO.out, HN.out]; exact HLT.out
          · have hd : decide ((room : Int) - (b : Int) < (a : Int)) = true := dct (by omega)
            have HF4 := HFN hk
            clear HFN HF2
            go_quiet ((go_at_call 12; exact quiet_left (HQ.out _)))
            have HWd := Lib.hid (below_drewN_ HW4.out nq)
            go_wp2
            go_ret
            exact RetPut.no HF4.out (HB.out.below HWd.out) HWd.out hBw
end By
end Go.Proofs.Ytepfggfideianaa
