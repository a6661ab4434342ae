/- The heap of numbers: Push, Pop, Len. -/
import Derived.Test.YtophfgijfmdbcaaProg
import Derived.Test.YtophfgijfmdbcaaHpB
namespace Go.Proofs.Ytophfgijfmdbcaa.Hp
open Go.RowKit Go.Proofs.Ytophfgijfmdbcaa Go.Proofs.Ytophfgijfmdbcaa.So

def encI : Enc Int := ⟨fun x => [.int .i64 x], 1, 3, fun x => .int .i64 x⟩
theorem Try.infoInt : (Try.prog.info? 3).map (fun i => (i.zero, i.size, i.bytes)) = some (some (.int .i64 0), 1, 8) := by kernel_rfl
theorem okI : encI.Ok Try.prog where
  len _ := rfl
  one x v hv := by simp [encI] at hv; subst hv; rfl
  pos := by decide
  ld W g o x h := by
    have hc := h 0 (.int .i64 x) rfl
    simp only [Nat.add_zero] at hc
    simp [go_sem, encI, hc]
  st W g o x h := by
    obtain ⟨h1, h2⟩ := h 0 (by decide)
    simp only [Nat.add_zero] at h1 h2
    obtain ⟨u, hu⟩ := Option.isSome_iff_exists.1 h1
    simp [go_sem, encI, hu, h2, World.setCells]
theorem idx_at (W : World) {g c n i : Nat} {x : Int} (hx : x = (i : Int)) (hi : i < n) : (Instr.indexAt 37 (.slice (some ⟨g, 0, none⟩) n c) (.int .i64 x)).run Try.prog W = .ok (.pointer (some ⟨g, i * encI.sz, none⟩)) W := by
  subst hx
  have h1 : (i : Int) < (n : Int) := by omega
  have e1 : encI.sz = 1 := rfl
  rw [e1]
  simp [go_sem, h1]
abbrev HI (w : World) (B gh : Nat) (fv : Value) (A : Option Addr) (c : Nat) (d : List Int) : Prop := HeapAt encI 73 w B gh fv A c d
/-- What the order's function answers, wherever K holds. -/
structure Asks (K : World → Prop) (B0 : Nat) (gc : FuncId) (FR : Array Value) (lt : Int → Int → Bool) : Prop where
  keep : ∀ W W', K W → Below B0 W W' → K W'
  call : ∀ (x y : Int) (W : World), K W → Calls Try.prog gc (#[.int .i64 x, .int .i64 y] ++ FR) W fun e W' => e = .returned (.bool (lt x y)) ∧ Below W.heap.size W W'
  enter : ∀ args W, (callFunc gc args).run Try.prog W = .ok (.enter gc args) W
/-- A heap behind a call: in order, of these things. -/
def HeapR (B gh : Nat) (fv : Value) (lt : Int → Int → Bool) (old : Option Nat) (n0 : Nat) (d : List Int) (w' : World) : Prop := ∃ A c d', HI w' B gh fv A c d' ∧ Heap lt d' ∧ d'.Perm d ∧ (ownB A = old ∨ ∃ k, ownB A = some k ∧ n0 ≤ k)

set_option maxRecDepth 100000 in
theorem field0 (gh : Nat) (W : World) : (Instr.fieldAt 73 (.pointer (some ⟨gh, 0, none⟩)) 0).run Try.prog W = .ok (.pointer (some ⟨gh, 0, none⟩)) W := by simp [go_sem]
set_option maxRecDepth 100000 in
theorem field1 (gh : Nat) (W : World) : (Instr.fieldAt 73 (.pointer (some ⟨gh, 0, none⟩)) 1).run Try.prog W = .ok (.pointer (some ⟨gh, 1, none⟩)) W := by simp [go_sem]
theorem load_l (W : World) {gh : Nat} {A : Option Addr} {n c : Nat} (h : W.cell? ⟨gh, 0, none⟩ = some (.slice A n c)) : (Instr.loadAt 37 (.pointer (some ⟨gh, 0, none⟩))).run Try.prog W = .ok (.slice A n c) W := by simp [go_sem, h]
theorem load_f (W : World) {gh gc : Nat} {FR : Array Value} (h : W.cell? ⟨gh, 1, none⟩ = some (.func (.func gc) #[] FR)) : (Instr.loadAt 36 (.pointer (some ⟨gh, 1, none⟩))).run Try.prog W = .ok (.func (.func gc) #[] FR) W := by simp [go_sem, h]

set_option maxRecDepth 100000 in
set_option maxHeartbeats 6400000 in
theorem push_calls (K : World → Prop) (B gh gc c : Nat) (FR : Array Value) (lt : Int → Int → Bool) (hO : Swo lt) (hA : Asks K B gc FR lt) (w : World) (A : Option Addr) (dd : List Int) (x : Int) (hK : K w) (h : HI w B gh (.func (.func gc) #[] FR) A c dd) (hd : Heap lt dd) (hn : dd.length ≤ 1099511627776) :
    Calls Try.prog 18 #[.pointer (some ⟨gh, 0, none⟩), .int .i64 x] w fun e w' => e = .returned (.tuple #[]) ∧ HeapR B gh (.func (.func gc) #[] FR) lt (ownB A) w.heap.size (x :: dd) w' ∧ Below B w w' ∧ Fr gh (ownB A) w w' := by
  have y0 := h.blk.cell 0
  have f0 := h.blk.frozen 0
  simp only [List.getElem?_toArray, List.getElem?_cons_zero, List.getElem?_cons_succ] at y0
  have hlt := h.blk.lt
  have hlow := h.low
  have H0 := Lib.hid h
  have HD := Lib.hid hd
  obtain ⟨n0, hn0⟩ : ∃ n0, n0 = dd.length := ⟨_, rfl⟩
  rw [← hn0] at y0 hn
  have HN := Lib.hid hn0
  have hown : w.ownsRow B encI.E encI.sz (.slice A n0 c) n0 (dd.flatMap encI.cs) := by rw [hn0]; exact h.own
  have HOW := Lib.hid hown
  clear h hd hn0 hown
  go_enter Try.func18, Try.ntmps18
  go_wp2_with (at_builtin; go_must (refine wpList_append_sl _ rfl (.tmp 11) (.tmp 13) _ rfl B 3 _ 1 8 Try.underlying37 Try.infoInt rfl (by omega) _ _ _ rfl (HOW.out.alloc _) (w.heap.size + 1) _ 1 1 [.int .i64 x] rfl (Reads.made (n := 1) (size := 1) w _ _ rfl) (by simp [Value.oneCell']) (by unfold maxLen; omega) (by omega) (by simp; omega) ?_))
  intro A2 cp w2 hc1 hcp hrd hbel hown2 hgr hob
  obtain ⟨g, rfl, hgB, hgl, _⟩ := own_at hown2 (by omega)
  have HOB : Hid (some g = ownB A ∨ w.heap.size ≤ g) := Lib.hid (by
    rw [ownB_eq, ownB_eq] at hob
    rcases hob with h1 | h1
    · exact .inl h1
    · right
      have h1 : some g = some (w.heap.size + 1) := h1
      injection h1 with h1
      omega)
  have hfr0 : Fr gh (ownB A) w w2 := Fr.grown (by rw [ownB_eq] at hgr; exact hgr)
  clear hob
  have hbk : Blk w2 gh 73 #[.slice A n0 c, .func (.func gc) #[] FR] := by
    have h1 := H0.out.blk
    rw [← HN.out] at h1
    refine (h1.alloc _).grown hgr (fun e => ?_)
    rcases HOW.out.2 with ⟨h2, _⟩ | ⟨g', cap', cur, h2, _, hg', _⟩
    · rw [h2] at e; cases e
    · rw [h2] at e
      have e : gh = g' := by injection e
      exact Blk.ne_ h1 hg' (by decide) e
  have hne : gh ≠ g := by
    rcases hown2.2 with ⟨h2, _⟩ | ⟨g', cap', cur, h2, _, hg', _⟩
    · cases h2
    · injection h2 with h2
      injection h2 with h2
      injection h2 with h2
      subst h2
      exact Blk.ne_ hbk hg' (by decide)
  have y2 := hbk.cell 0
  have f2 := hbk.frozen 0
  simp only [List.getElem?_toArray, List.getElem?_cons_zero, List.getElem?_cons_succ] at y2
  have HH : Hid (HI (w2.setCell ⟨gh, 0, none⟩ (.slice (some ⟨g, 0, none⟩) (n0 + 1) cp)) B gh (.func (.func gc) #[] FR) (some ⟨g, 0, none⟩) cp (dd ++ [x])) := Lib.hid (by
    have el : (dd ++ [x]).length = n0 + 1 := by rw [List.length_append, HN.out]; rfl
    refine ⟨?_, hlow, ?_⟩
    · rw [el]
      have := hbk.set_ 0 (.slice (some ⟨g, 0, none⟩) (n0 + 1) cp)
      simp only [List.setIfInBounds_toArray, List.set_cons_zero, List.set_cons_succ] at this
      exact this
    · rw [el, List.flatMap_append]
      have := own_not' hown2 ((Only.refl gh w2).setCell (p := ⟨gh, 0, none⟩) (.inl rfl) (.slice (some ⟨g, 0, none⟩) (n0 + 1) cp)) (by show some g ≠ some gh; simp; exact fun e => hne e.symm)
      exact this)
  have HB2 : Hid (Below B w (w2.setCell ⟨gh, 0, none⟩ (.slice (some ⟨g, 0, none⟩) (n0 + 1) cp))) := Lib.hid ((((Below.refl B w).alloc (by omega) _).trans hbel).setCell hlow _)
  have HFR : Hid (Fr gh (ownB A) w (w2.setCell ⟨gh, 0, none⟩ (.slice (some ⟨g, 0, none⟩) (n0 + 1) cp))) := Lib.hid (hfr0.only ((Only.refl gh w2).setCell (p := ⟨gh, 0, none⟩) (.inl rfl) _) (.inl rfl))
  have hs2 := hbel.size
  rw [World.size_alloc] at hs2
  clear hrd hbel hown2 hgr hbk hc1 hcp hfr0
  go_wp2
  generalize hw3 : w2.setCell ⟨gh, 0, none⟩ (.slice (some ⟨g, 0, none⟩) (n0 + 1) cp) = w3 at *
  clear hw3 y2 f2
  have hl0 : HH.out.blk.lt = HH.out.blk.lt := rfl
  clear hl0
  have HUP : Hid (Up lt (dd ++ [x]) n0) := Lib.hid (by rw [HN.out]; exact Up.start HD.out x)
  have HPM : Hid ((dd ++ [x]).Perm (x :: dd)) := Lib.hid List.perm_append_comm
  have HEL : Hid ((dd ++ [x]).length = n0 + 1) := Lib.hid (by rw [List.length_append, HN.out]; rfl)
  have HK3 : Hid (K w3) := Lib.hid (hA.keep _ _ hK HB2.out)
  have HA := Lib.hid hA
  have HO := Lib.hid hO
  obtain ⟨n, hnn⟩ : ∃ n, n = n0 + 1 := ⟨_, rfl⟩
  have hn1 : 1 ≤ n := by omega
  have hn2 : n ≤ 1099511627777 := by omega
  have hn3 : n0 < n := by omega
  have hn4 : n ≤ n0 + 1 := by omega
  rw [← hnn] at HEL
  have HB3 := Lib.hid (⟨Below.refl B w3, HFR.out⟩ : _ ∧ _)
  generalize dd ++ [x] = d0 at *
  clear hnn hA hO hne hgl H0 HD HOW HN y0 f0
  go_loopw [4] (fun vi wx => ∃ (i : Nat) (d : List Int), i < n ∧ n ≤ d.length ∧ d.length ≤ n ∧ vi = .int .i64 (i : Int) ∧ Hid (HI wx B gh (.func (.func gc) #[] FR) (some ⟨g, 0, none⟩) cp d) ∧ Hid (Up lt d i ∧ d.Perm d0) ∧ Hid (Below B w3 wx ∧ Fr gh (ownB A) w wx)) (fun vi _ => (intOf vi).toNat)
  case atStart => exact ⟨n0, d0, by omega, by rw [HEL.out]; exact Nat.le_refl _, by rw [HEL.out]; exact Nat.le_refl _, rfl, HH, Lib.hid ⟨HUP.out, List.Perm.refl _⟩, HB3⟩
  case round =>
    obtain ⟨i, d, hin, hd1, hd2, rfl, HH2, HU, HB⟩ := hrel
    have hed : d.length = n := by omega
    have HED := Lib.hid hed
    have HR : Hid (RowG encI wr B g cp d) := Lib.hid HH2.out.row
    have hblk := HH2.out.blk
    rw [hed] at hblk
    have HBK := Lib.hid hblk
    have hglt := hblk.lt
    have hglt2 := HR.out.lt.2
    have hgne : gh ≠ g := HH2.out.ne (by decide)
    clear hed hblk
    by_cases h0 : i = 0
    · have d0' : decide (0 < i) = false := dcf (by omega)
      have HF : Hid (∀ W, Below wr.heap.size wr W → HeapR B gh (.func (.func gc) #[] FR) lt (ownB A) w.heap.size (x :: dd) W) := Lib.hid fun W hW => ⟨_, _, d, HH2.out.below hW, HU.out.1.stop (.inl h0), HU.out.2.trans HPM.out, HOB.out.imp id fun h => ⟨g, rfl, h⟩⟩
      clear h0
      go_wp2_with fail
      go_quiet (fail)
      go_wp2
      go_end0
      exact ⟨rfl, HF.out _ (below_drewN_ (Below.refl _ _) _), below_drewN_ (HB2.out.trans HB.out.1) _, HB.out.2.below (below_drewN_ (Below.refl _ _) _)⟩
    · have p1 : (i - 1) / 2 < n := by omega
      have p0 : 0 < i := by omega
      clear h0
      have fa0 := field0 gh
      have fa1 := field1 gh
      have Hent : Hid (∀ args W, (callFunc gc args).run Try.prog W = .ok (.enter gc args) W) := Lib.hid HA.out.enter
      have Hask : Hid (∀ W, Below wr.heap.size wr W → Calls Try.prog gc (#[encI.vf (gt d i), encI.vf (gt d ((i - 1) / 2))] ++ FR) W fun e W' => e = .returned (.bool (lt (gt d i) (gt d ((i - 1) / 2)))) ∧ Below W.heap.size W W') := Lib.hid fun W hW => HA.out.call _ _ W (HA.out.keep _ _ (HA.out.keep _ _ HK3.out HB.out.1) (hW.mono (by omega)))
      have hl0 := fun W (hW : Below wr.heap.size wr W) => load_l W (((HBK.out.below hW hglt).cell 0).trans rfl : W.cell? ⟨gh, 0, none⟩ = some (.slice (some ⟨g, 0, none⟩) n cp))
      have hl1 := fun W (hW : Below wr.heap.size wr W) => load_f W (((HBK.out.below hW hglt).cell 1).trans rfl : W.cell? ⟨gh, 1, none⟩ = some (.func (.func gc) #[] FR))
      have hld_i := fun W (hW : Below wr.heap.size wr W) => okI.ld W g (i * encI.sz) (gt d i) fun j v hv => (HR.out.below hW).cell okI (by omega) hv
      have hld_p := fun W (hW : Below wr.heap.size wr W) => okI.ld W g ((i - 1) / 2 * encI.sz) (gt d ((i - 1) / 2)) fun j v hv => (HR.out.below hW).cell okI (by omega) hv
      go_wp2_with fail
      refine wp_ask (by kernel_rfl) (by kernel_rfl) (fun q_ => (#[.int .i64 ((i : Int)), .bool (true), .bool (true), .pointer (some ⟨gh, 0, none⟩), .pointer (some ⟨gh, 0, none⟩), .pointer (some ⟨gh, 1, none⟩), .func (.func gc) #[] FR, .pointer (some ⟨gh, 0, none⟩), .pointer (some ⟨gh, 0, none⟩), .pointer (some ⟨gh, 0, none⟩), .slice (some ⟨g, 0, none⟩) n cp, .int .i64 ((i : Int)), .pointer (some ⟨g, (i) * encI.sz, none⟩), encI.vf (gt d (i)), .pointer (some ⟨gh, 0, none⟩), .pointer (some ⟨gh, 0, none⟩), .pointer (some ⟨gh, 0, none⟩), .slice (some ⟨g, 0, none⟩) n cp, .int .i64 ((i : Int)), .int .i64 ((i : Int) - 1), .int .i64 (((i : Int) - 1) / 2), .pointer (some ⟨g, ((i - 1) / 2) * encI.sz, none⟩), encI.vf (gt d ((i - 1) / 2)), .bool (lt (gt d (i)) (gt d ((i - 1) / 2))), .bool (lt (gt d (i)) (gt d ((i - 1) / 2)))] : Array Value).getD q_ undef) 23 _ _ (fun q_ o ho b hvl => wanted_of (gk := 2) (want := true) (by kernel_rfl) ho (fun hw0 => hvl 2 25 hw0 rfl) rfl rfl) ?_ Hask.out ?_ [(some 23, .int .i64 ((i : Int))), (some 24, .bool (true)), (some 25, .bool (true)), (some 26, .pointer (some ⟨gh, 0, none⟩)), (some 27, .pointer (some ⟨gh, 0, none⟩)), (some 28, .pointer (some ⟨gh, 1, none⟩)), (some 29, .func (.func gc) #[] FR), (some 30, .pointer (some ⟨gh, 0, none⟩)), (some 31, .pointer (some ⟨gh, 0, none⟩)), (some 32, .pointer (some ⟨gh, 0, none⟩)), (some 33, .slice (some ⟨g, 0, none⟩) n cp), (some 34, .int .i64 ((i : Int))), (some 35, .pointer (some ⟨g, (i) * encI.sz, none⟩)), (some 36, encI.vf (gt d (i))), (some 37, .pointer (some ⟨gh, 0, none⟩)), (some 38, .pointer (some ⟨gh, 0, none⟩)), (some 39, .pointer (some ⟨gh, 0, none⟩)), (some 40, .slice (some ⟨g, 0, none⟩) n cp), (some 41, .int .i64 ((i : Int))), (some 42, .int .i64 ((i : Int) - 1)), (some 43, .int .i64 (((i : Int) - 1) / 2)), (some 44, .pointer (some ⟨g, ((i - 1) / 2) * encI.sz, none⟩)), (some 45, encI.vf (gt d ((i - 1) / 2))), (some 46, .bool (lt (gt d (i)) (gt d ((i - 1) / 2)))), (some 47, .bool (lt (gt d (i)) (gt d ((i - 1) / 2))))] rfl ?_
      · intro o ho b W hev
        cases ho
        exact run_callv W 29 36 45 rfl (hev 6 29 (by kernel_rfl) rfl) (hev 13 36 (by kernel_rfl) rfl) (hev 22 45 (by kernel_rfl) rfl) (Hent.out _ _)
      · intro q_ o ho k1 b W hW hev hout
        rcases q_ with _ | _ | _ | _ | _ | _ | _ | _ | _ | _ | _ | _ | _ | _ | _ | _ | _ | _ | _ | _ | _ | _ | _ | _ | _ | q_
        · cases ho
          exact run_move W (.tmp 4) rfl ((hout 4 (by kernel_rfl)).trans rfl)
        · cases ho
          exact run_gtr0 W (.tmp 23) rfl (hev 0 23 (by kernel_rfl) rfl) (by omega)
        · cases ho
          exact run_move W (.tmp 24) rfl (hev 1 24 (by kernel_rfl) rfl)
        · cases ho
          exact run_move W (.tmp 0) rfl ((hout 0 (by kernel_rfl)).trans rfl)
        · cases ho
          exact run_nil W (.tmp 26) rfl (hev 3 26 (by kernel_rfl) rfl)
        · cases ho
          exact run_fa W (.tmp 27) rfl (hev 4 27 (by kernel_rfl) rfl) fa1
        · cases ho
          exact run_load (.tmp 28) rfl (hev 5 28 (by kernel_rfl) rfl) (hl1 W hW)
        · cases ho
          exact run_move W (.tmp 0) rfl ((hout 0 (by kernel_rfl)).trans rfl)
        · cases ho
          exact run_nil W (.tmp 30) rfl (hev 7 30 (by kernel_rfl) rfl)
        · cases ho
          exact run_fa W (.tmp 31) rfl (hev 8 31 (by kernel_rfl) rfl) fa0
        · cases ho
          exact run_load (.tmp 32) rfl (hev 9 32 (by kernel_rfl) rfl) (hl0 W hW)
        · cases ho
          exact run_move W (.tmp 4) rfl ((hout 4 (by kernel_rfl)).trans rfl)
        · cases ho
          exact run_idxv W (.tmp 33) (.tmp 34) rfl (hev 10 33 (by kernel_rfl) rfl) (hev 11 34 (by kernel_rfl) rfl) (idx_at W (by omega) (by omega))
        · cases ho
          exact run_load (.tmp 35) rfl (hev 12 35 (by kernel_rfl) rfl) (hld_i W hW)
        · cases ho
          exact run_move W (.tmp 0) rfl ((hout 0 (by kernel_rfl)).trans rfl)
        · cases ho
          exact run_nil W (.tmp 37) rfl (hev 14 37 (by kernel_rfl) rfl)
        · cases ho
          exact run_fa W (.tmp 38) rfl (hev 15 38 (by kernel_rfl) rfl) fa0
        · cases ho
          exact run_load (.tmp 39) rfl (hev 16 39 (by kernel_rfl) rfl) (hl0 W hW)
        · cases ho
          exact run_move W (.tmp 4) rfl ((hout 4 (by kernel_rfl)).trans rfl)
        · cases ho
          exact run_sub W (.tmp 41) (.const (.int .i64 1)) rfl (hev 18 41 (by kernel_rfl) rfl) rfl (IntWalk.i64_in _ (by omega))
        · cases ho
          exact run_half W (.tmp 42) rfl (hev 19 42 (by kernel_rfl) rfl) (by omega) (by omega)
        · cases ho
          exact run_idxv W (.tmp 40) (.tmp 43) rfl (hev 17 40 (by kernel_rfl) rfl) (hev 20 43 (by kernel_rfl) rfl) (idx_at W (by omega) (by omega))
        · cases ho
          exact run_load (.tmp 44) rfl (hev 21 44 (by kernel_rfl) rfl) (hld_p W hW)
        · exact absurd rfl k1
        · cases ho
          exact run_pick W (.tmp 25) (.tmp 46) rfl (hev 2 25 (by kernel_rfl) rfl) (hev 23 46 (by kernel_rfl) rfl)
        · cases ho
      · intro w5 hb5
        have hs5 := hb5.size
        have HSTOP : Hid (lt (gt d i) (gt d ((i - 1) / 2)) = false → HeapR B gh (.func (.func gc) #[] FR) lt (ownB A) w.heap.size (x :: dd) w5) := Lib.hid fun hl => ⟨_, _, d, HH2.out.below hb5, HU.out.1.stop (.inr hl), HU.out.2.trans HPM.out, HOB.out.imp id fun h => ⟨g, rfl, h⟩⟩
        have HSTEP : Hid (lt (gt d i) (gt d ((i - 1) / 2)) = true → Up lt (sw d i ((i - 1) / 2)) ((i - 1) / 2)) := Lib.hid fun hl => HU.out.1.step HO.out p0 (by omega) hl
        have HR : Hid (RowG encI w5 B g cp d) := Lib.hid (HR.out.below hb5)
        have HBK5 := Lib.hid (HBK.out.below hb5 hglt)
        have HB5 := Lib.hid (⟨HB.out.1.trans (hb5.mono (by omega)), HB.out.2.below hb5⟩ : _ ∧ _)
        simp only [putP, Exit.then, Act.put, List.setIfInBounds_toArray, List.set_cons_zero, List.set_cons_succ]
        clear hl0 hl1 hld_i hld_p Hask hb5 fa1
        cases hbb : lt (gt d i) (gt d ((i - 1) / 2))
        · have HX := Lib.hid (HSTOP.out hbb)
          clear hbb
          go_wp2
          go_end0
          exact ⟨rfl, HX.out, HB2.out.trans HB5.out.1, HB5.out.2⟩
        · have HX := Lib.hid (HSTEP.out hbb)
          clear hbb
          have hl0 := fun W (hW : Only g w5 W) => load_l W (((hW.blk HBK5.out hgne).cell 0).trans rfl : W.cell? ⟨gh, 0, none⟩ = some (.slice (some ⟨g, 0, none⟩) n cp))
          go_wp2_with fail
          refine wp_exch (by kernel_rfl) (by kernel_rfl) encI okI _ g _ _ (i) ((i - 1) / 2) (by omega) (by omega) HR.out
            (fun q_ => (#[.pointer (some ⟨gh, 0, none⟩), .pointer (some ⟨gh, 0, none⟩), .pointer (some ⟨gh, 0, none⟩), .slice (some ⟨g, 0, none⟩) n cp, .int .i64 ((i : Int)), .pointer (some ⟨gh, 0, none⟩), .pointer (some ⟨gh, 0, none⟩), .pointer (some ⟨gh, 0, none⟩), .slice (some ⟨g, 0, none⟩) n cp, .int .i64 ((i : Int)), .int .i64 ((i : Int) - 1), .int .i64 (((i : Int) - 1) / 2), .pointer (some ⟨gh, 0, none⟩), .pointer (some ⟨gh, 0, none⟩), .pointer (some ⟨gh, 0, none⟩), .slice (some ⟨g, 0, none⟩) n cp, .int .i64 ((i : Int)), .int .i64 ((i : Int) - 1), .int .i64 (((i : Int) - 1) / 2), .pointer (some ⟨g, ((i - 1) / 2) * encI.sz, none⟩), encI.vf (gt d ((i - 1) / 2)), .pointer (some ⟨gh, 0, none⟩), .pointer (some ⟨gh, 0, none⟩), .pointer (some ⟨gh, 0, none⟩), .slice (some ⟨g, 0, none⟩) n cp, .int .i64 ((i : Int)), .pointer (some ⟨g, (i) * encI.sz, none⟩), encI.vf (gt d (i)), .pointer (some ⟨g, (i) * encI.sz, none⟩), undef, .pointer (some ⟨g, ((i - 1) / 2) * encI.sz, none⟩), undef] : Array Value).getD q_ undef) 20 27 29 31 19 26 28 30 70 77 79 80 71 78 rfl rfl rfl rfl rfl rfl ⟨_, rfl, rfl⟩ ⟨_, rfl, rfl⟩ ⟨_, rfl, rfl, rfl⟩ ⟨_, rfl, rfl, rfl⟩ (by exact ⟨rfl, rfl, rfl, rfl, rfl, rfl⟩) (by kernel_rfl) (by decide) ?_ [(some 51, .pointer (some ⟨gh, 0, none⟩)), (some 52, .pointer (some ⟨gh, 0, none⟩)), (some 53, .pointer (some ⟨gh, 0, none⟩)), (some 54, .slice (some ⟨g, 0, none⟩) n cp), (some 55, .int .i64 ((i : Int))), (some 56, .pointer (some ⟨gh, 0, none⟩)), (some 57, .pointer (some ⟨gh, 0, none⟩)), (some 58, .pointer (some ⟨gh, 0, none⟩)), (some 59, .slice (some ⟨g, 0, none⟩) n cp), (some 60, .int .i64 ((i : Int))), (some 61, .int .i64 ((i : Int) - 1)), (some 62, .int .i64 (((i : Int) - 1) / 2)), (some 63, .pointer (some ⟨gh, 0, none⟩)), (some 64, .pointer (some ⟨gh, 0, none⟩)), (some 65, .pointer (some ⟨gh, 0, none⟩)), (some 66, .slice (some ⟨g, 0, none⟩) n cp), (some 67, .int .i64 ((i : Int))), (some 68, .int .i64 ((i : Int) - 1)), (some 69, .int .i64 (((i : Int) - 1) / 2)), (some 70, .pointer (some ⟨g, ((i - 1) / 2) * encI.sz, none⟩)), (some 71, encI.vf (gt d ((i - 1) / 2))), (some 72, .pointer (some ⟨gh, 0, none⟩)), (some 73, .pointer (some ⟨gh, 0, none⟩)), (some 74, .pointer (some ⟨gh, 0, none⟩)), (some 75, .slice (some ⟨g, 0, none⟩) n cp), (some 76, .int .i64 ((i : Int))), (some 77, .pointer (some ⟨g, (i) * encI.sz, none⟩)), (some 78, encI.vf (gt d (i))), (some 79, .pointer (some ⟨g, (i) * encI.sz, none⟩)), (none, undef), (some 80, .pointer (some ⟨g, ((i - 1) / 2) * encI.sz, none⟩)), (none, undef)] rfl ?_ (by exact ⟨by decide, by decide⟩)
          · intro q_ o ho k1 k2 k3 k4 b W hW hev hout
            rcases q_ with _ | _ | _ | _ | _ | _ | _ | _ | _ | _ | _ | _ | _ | _ | _ | _ | _ | _ | _ | _ | _ | _ | _ | _ | _ | _ | _ | _ | _ | _ | _ | _ | q_
            · cases ho
              exact run_move W (.tmp 0) rfl ((hout 0 (by kernel_rfl)).trans rfl)
            · cases ho
              exact run_nil W (.tmp 51) rfl (hev 0 51 (by kernel_rfl) (by decide) (by decide) rfl)
            · cases ho
              exact run_fa W (.tmp 52) rfl (hev 1 52 (by kernel_rfl) (by decide) (by decide) rfl) fa0
            · cases ho
              exact run_load (.tmp 53) rfl (hev 2 53 (by kernel_rfl) (by decide) (by decide) rfl) (hl0 W hW)
            · cases ho
              exact run_move W (.tmp 4) rfl ((hout 4 (by kernel_rfl)).trans rfl)
            · cases ho
              exact run_move W (.tmp 0) rfl ((hout 0 (by kernel_rfl)).trans rfl)
            · cases ho
              exact run_nil W (.tmp 56) rfl (hev 5 56 (by kernel_rfl) (by decide) (by decide) rfl)
            · cases ho
              exact run_fa W (.tmp 57) rfl (hev 6 57 (by kernel_rfl) (by decide) (by decide) rfl) fa0
            · cases ho
              exact run_load (.tmp 58) rfl (hev 7 58 (by kernel_rfl) (by decide) (by decide) rfl) (hl0 W hW)
            · cases ho
              exact run_move W (.tmp 4) rfl ((hout 4 (by kernel_rfl)).trans rfl)
            · cases ho
              exact run_sub W (.tmp 60) (.const (.int .i64 1)) rfl (hev 9 60 (by kernel_rfl) (by decide) (by decide) rfl) rfl (IntWalk.i64_in _ (by omega))
            · cases ho
              exact run_half W (.tmp 61) rfl (hev 10 61 (by kernel_rfl) (by decide) (by decide) rfl) (by omega) (by omega)
            · cases ho
              exact run_move W (.tmp 0) rfl ((hout 0 (by kernel_rfl)).trans rfl)
            · cases ho
              exact run_nil W (.tmp 63) rfl (hev 12 63 (by kernel_rfl) (by decide) (by decide) rfl)
            · cases ho
              exact run_fa W (.tmp 64) rfl (hev 13 64 (by kernel_rfl) (by decide) (by decide) rfl) fa0
            · cases ho
              exact run_load (.tmp 65) rfl (hev 14 65 (by kernel_rfl) (by decide) (by decide) rfl) (hl0 W hW)
            · cases ho
              exact run_move W (.tmp 4) rfl ((hout 4 (by kernel_rfl)).trans rfl)
            · cases ho
              exact run_sub W (.tmp 67) (.const (.int .i64 1)) rfl (hev 16 67 (by kernel_rfl) (by decide) (by decide) rfl) rfl (IntWalk.i64_in _ (by omega))
            · cases ho
              exact run_half W (.tmp 68) rfl (hev 17 68 (by kernel_rfl) (by decide) (by decide) rfl) (by omega) (by omega)
            · cases ho
              exact run_idxv W (.tmp 66) (.tmp 69) rfl (hev 15 66 (by kernel_rfl) (by decide) (by decide) rfl) (hev 18 69 (by kernel_rfl) (by decide) (by decide) rfl) (idx_at W (by omega) (by omega))
            · exact absurd rfl k1
            · cases ho
              exact run_move W (.tmp 0) rfl ((hout 0 (by kernel_rfl)).trans rfl)
            · cases ho
              exact run_nil W (.tmp 72) rfl (hev 21 72 (by kernel_rfl) (by decide) (by decide) rfl)
            · cases ho
              exact run_fa W (.tmp 73) rfl (hev 22 73 (by kernel_rfl) (by decide) (by decide) rfl) fa0
            · cases ho
              exact run_load (.tmp 74) rfl (hev 23 74 (by kernel_rfl) (by decide) (by decide) rfl) (hl0 W hW)
            · cases ho
              exact run_move W (.tmp 4) rfl ((hout 4 (by kernel_rfl)).trans rfl)
            · cases ho
              exact run_idxv W (.tmp 75) (.tmp 76) rfl (hev 24 75 (by kernel_rfl) (by decide) (by decide) rfl) (hev 25 76 (by kernel_rfl) (by decide) (by decide) rfl) (idx_at W (by omega) (by omega))
            · exact absurd rfl k2
            · cases ho
              exact run_idxv W (.tmp 54) (.tmp 55) rfl (hev 3 54 (by kernel_rfl) (by decide) (by decide) rfl) (hev 4 55 (by kernel_rfl) (by decide) (by decide) rfl) (idx_at W (by omega) (by omega))
            · exact absurd rfl k3
            · cases ho
              exact run_idxv W (.tmp 59) (.tmp 62) rfl (hev 8 59 (by kernel_rfl) (by decide) (by decide) rfl) (hev 11 62 (by kernel_rfl) (by decide) (by decide) rfl) (idx_at W (by omega) (by omega))
            · exact absurd rfl k4
            · cases ho
          · intro w6 hrow honly
            have HH6 : Hid (HI w6 B gh (.func (.func gc) #[] FR) (some ⟨g, 0, none⟩) cp (sw d i ((i - 1) / 2))) := Lib.hid ⟨by rw [sw_len, HED.out]; exact honly.blk HBK5.out hgne, hlow, hrow⟩
            have HU6 := Lib.hid (⟨HX.out, (sw_perm (by rw [HED.out]; exact hin) (by rw [HED.out]; exact p1)).trans HU.out.2⟩ : _ ∧ _)
            have HB6 := Lib.hid (⟨HB5.out.1.trans (honly.below hgB (by omega)), HB5.out.2.only honly (.inr HOB.out)⟩ : _ ∧ _)
            have e1 : (sw d i ((i - 1) / 2)).length = d.length := sw_len _ _ _
            have e2 : n ≤ (sw d i ((i - 1) / 2)).length := by omega
            have e3 : (sw d i ((i - 1) / 2)).length ≤ n := by omega
            have e4 : ((i : Int) - 1) / 2 = (((i - 1) / 2 : Nat) : Int) := by omega
            simp only [putP, Exit.then, Act.put, List.setIfInBounds_toArray, List.set_cons_zero, List.set_cons_succ]
            clear hl0 e1 hrow honly HSTOP HSTEP
            have E4 := Lib.hid e4
            clear e4
            generalize sw d i ((i - 1) / 2) = d6 at *
            go_wp2
            go_roundw
            case rel => exact ⟨(i - 1) / 2, d6, p1, e2, e3, by rw [← E4.out], HH6, HU6, HB6⟩
            case measure => simp [intOf]; omega

theorem push_nil (w : World) (x : Int) : Calls Try.prog 18 #[.pointer none, .int .i64 x] w fun e w' => e = .returned (.tuple #[]) ∧ Below w.heap.size w w' := by
  go_enter Try.func18, Try.ntmps18
  go_wp2
  refine bodyPost_ret (results_none rfl _ _ _) rfl ?_
  exact ⟨rfl, Below.refl _ _⟩
set_option maxRecDepth 100000 in
theorem pop_nil (w : World) : Calls Try.prog 17 #[.pointer none] w fun e w' => e = .returned (.tuple #[.int .i64 0, .bool false]) ∧ Below w.heap.size w w' := by
  go_enter Try.func17, Try.ntmps17
  go_wp2
  go_ret2
  exact ⟨rfl, Below.refl _ _⟩
theorem len_nil (w : World) : Calls Try.prog 19 #[.pointer none] w fun e w' => e = .returned (.int .i64 0) ∧ Below w.heap.size w w' := by
  go_enter Try.func19, Try.ntmps19
  go_wp2
  go_ret
  exact ⟨rfl, Below.refl _ _⟩
theorem len_calls (w : World) {B gh c : Nat} {fv : Value} {A : Option Addr} {d : List Int} (h : HI w B gh fv A c d) : Calls Try.prog 19 #[.pointer (some ⟨gh, 0, none⟩)] w fun e w' => e = .returned (.int .i64 d.length) ∧ Below w.heap.size w w' := by
  have y0 := h.blk.cell 0
  simp only [List.getElem?_toArray, List.getElem?_cons_zero, List.getElem?_cons_succ] at y0
  clear h
  go_enter Try.func19, Try.ntmps19
  go_wp2
  go_ret
  exact ⟨rfl, Below.refl _ _⟩
set_option maxRecDepth 100000 in
theorem pop_empty (w : World) {B gh c : Nat} {fv : Value} {A : Option Addr} (h : HI w B gh fv A c []) : Calls Try.prog 17 #[.pointer (some ⟨gh, 0, none⟩)] w fun e w' => e = .returned (.tuple #[.int .i64 0, .bool false]) ∧ Below w.heap.size w w' := by
  have y0 : w.cell? ⟨gh, 0, none⟩ = some (.slice A 0 c) := (h.blk.cell 0).trans rfl
  clear h
  go_enter Try.func17, Try.ntmps17
  go_wp2
  go_ret2
  exact ⟨rfl, Below.refl _ _⟩

theorem kids {k i : Nat} (h1 : k = 2 * i + 1) {j : Nat} (j0 : 0 < j) (hj : (j - 1) / 2 = i) : j = k ∨ j = k + 1 := by omega
theorem cut_take {d : List Int} {m : Nat} (hm : d.length = m + 1) : cutLast d = (d.set 0 (gt d m)).take m := by
  unfold cutLast
  rw [hm, Nat.add_sub_cancel]

set_option maxRecDepth 100000 in
set_option maxHeartbeats 12800000 in
theorem pop_calls (K : World → Prop) (B gh gc c : Nat) (FR : Array Value) (lt : Int → Int → Bool) (hO : Swo lt) (hA : Asks K B gc FR lt) (w : World) (A : Option Addr) (dd : List Int) (hK : K w) (h : HI w B gh (.func (.func gc) #[] FR) A c dd) (hd : Heap lt dd) (hn : dd.length ≤ 1099511627776) (hp : 0 < dd.length) :
    Calls Try.prog 17 #[.pointer (some ⟨gh, 0, none⟩)] w fun e w' => e = .returned (.tuple #[.int .i64 (gt dd 0), .bool true]) ∧ HeapR B gh (.func (.func gc) #[] FR) lt (ownB A) w.heap.size (cutLast dd) w' ∧ Below B w w' ∧ Fr gh (ownB A) w w' := by
  have hlt := h.blk.lt
  have hlow := h.low
  obtain ⟨g, rfl, hgB, hgl, hcap⟩ := own_at h.own hp
  have hgne : gh ≠ g := h.ne (by decide)
  have HR : Hid (RowG encI w B g c dd) := Lib.hid h.row
  have z0 : w.cell? ⟨g, 0, none⟩ = some (.int .i64 (gt dd 0)) := by
    have := HR.out.cell okI (i := 0) hp (j := 0) (v := .int .i64 (gt dd 0)) rfl
    simpa using this
  obtain ⟨x0, hx0⟩ : ∃ x0, x0 = gt dd 0 := ⟨_, rfl⟩
  rw [← hx0] at z0 ⊢
  clear hx0
  obtain ⟨n, hn0⟩ : ∃ n, n = dd.length := ⟨_, rfl⟩
  obtain ⟨m, hm⟩ : ∃ m, n = m + 1 := ⟨n - 1, by omega⟩
  have HBK : Hid (Blk w gh 73 #[.slice (some ⟨g, 0, none⟩) n c, .func (.func gc) #[] FR]) := Lib.hid (by rw [hn0]; exact h.blk)
  have y0 : w.cell? ⟨gh, 0, none⟩ = some (.slice (some ⟨g, 0, none⟩) n c) := (HBK.out.cell 0).trans rfl
  have HCUT : Hid (cutLast dd = (dd.set 0 (gt dd m)).take m ∧ dd.length = m + 1) := Lib.hid ⟨cut_take (by omega), by omega⟩
  have HDN : Hid (Down lt (cutLast dd) 0) := Lib.hid (Down.start hd)
  have HA := Lib.hid hA
  have HO := Lib.hid hO
  have HK := Lib.hid hK
  have hn1 : n ≤ 1099511627776 := by omega
  have hm1 : m < n := by omega
  have hm2 : n ≤ m + 1 := by omega
  have hd1 : n ≤ dd.length := by omega
  have hd2 : dd.length ≤ n := by omega
  have e0 : ((n : Int) == 0) = false := eqf (by omega)
  have e1 : (n : Int) - 1 = (m : Int) := by omega
  have E1 := Lib.hid e1
  clear h hd hA hO hK hn0 hm hn hp e1
  go_enter Try.func17, Try.ntmps17
  go_wp2_with fail
  rw [E1.out]
  have hl0 := fun W (hW : Only g w W) => load_l W (((hW.blk HBK.out hgne).cell 0).trans rfl : W.cell? ⟨gh, 0, none⟩ = some (.slice (some ⟨g, 0, none⟩) n c))
  have fa0 := field0 gh
  obtain ⟨cp, hcp⟩ : ∃ cp, cp = c := ⟨_, rfl⟩
  subst hcp
  obtain ⟨d, hdd⟩ : ∃ d, d = dd := ⟨_, rfl⟩
  subst hdd
  refine wp_put (by kernel_rfl) (by kernel_rfl) encI okI _ g _ _ (0) (m) (by omega) (by omega) HR.out
    (fun q_ => (#[.pointer (some ⟨gh, 0, none⟩), .pointer (some ⟨gh, 0, none⟩), .pointer (some ⟨gh, 0, none⟩), .slice (some ⟨g, 0, none⟩) n cp, .pointer (some ⟨gh, 0, none⟩), .pointer (some ⟨gh, 0, none⟩), .pointer (some ⟨gh, 0, none⟩), .slice (some ⟨g, 0, none⟩) n cp, .int .i64 ((m : Int)), .pointer (some ⟨g, (m) * encI.sz, none⟩), encI.vf (gt d (m)), .pointer (some ⟨g, (0) * encI.sz, none⟩), undef] : Array Value).getD q_ undef) 10 12 9 11 39 41 40 rfl rfl rfl ⟨_, rfl, rfl⟩ ⟨_, rfl, rfl, rfl⟩ (by exact ⟨rfl, rfl, rfl⟩) (by kernel_rfl) (by decide) ?_ [(some 30, .pointer (some ⟨gh, 0, none⟩)), (some 31, .pointer (some ⟨gh, 0, none⟩)), (some 32, .pointer (some ⟨gh, 0, none⟩)), (some 33, .slice (some ⟨g, 0, none⟩) n cp), (some 34, .pointer (some ⟨gh, 0, none⟩)), (some 35, .pointer (some ⟨gh, 0, none⟩)), (some 36, .pointer (some ⟨gh, 0, none⟩)), (some 37, .slice (some ⟨g, 0, none⟩) n cp), (some 38, .int .i64 ((m : Int))), (some 39, .pointer (some ⟨g, (m) * encI.sz, none⟩)), (some 40, encI.vf (gt d (m))), (some 41, .pointer (some ⟨g, (0) * encI.sz, none⟩)), (none, undef)] rfl ?_ (by decide)
  · intro q_ o ho k1 k2 b W hW hev hout
    rcases q_ with _ | _ | _ | _ | _ | _ | _ | _ | _ | _ | _ | _ | _ | q_
    · cases ho
      exact run_move W (.tmp 0) rfl ((hout 0 (by kernel_rfl)).trans rfl)
    · cases ho
      exact run_nil W (.tmp 30) rfl (hev 0 30 (by kernel_rfl) (by decide) rfl)
    · cases ho
      exact run_fa W (.tmp 31) rfl (hev 1 31 (by kernel_rfl) (by decide) rfl) fa0
    · cases ho
      exact run_load (.tmp 32) rfl (hev 2 32 (by kernel_rfl) (by decide) rfl) (hl0 W hW)
    · cases ho
      exact run_move W (.tmp 0) rfl ((hout 0 (by kernel_rfl)).trans rfl)
    · cases ho
      exact run_nil W (.tmp 34) rfl (hev 4 34 (by kernel_rfl) (by decide) rfl)
    · cases ho
      exact run_fa W (.tmp 35) rfl (hev 5 35 (by kernel_rfl) (by decide) rfl) fa0
    · cases ho
      exact run_load (.tmp 36) rfl (hev 6 36 (by kernel_rfl) (by decide) rfl) (hl0 W hW)
    · cases ho
      exact run_move W (.tmp 4) rfl ((hout 4 (by kernel_rfl)).trans rfl)
    · cases ho
      exact run_idxv W (.tmp 37) (.tmp 38) rfl (hev 7 37 (by kernel_rfl) (by decide) rfl) (hev 8 38 (by kernel_rfl) (by decide) rfl) (idx_at W (by omega) (by omega))
    · exact absurd rfl k1
    · cases ho
      exact run_idxv W (.tmp 33) (.const (.int .i64 0)) rfl (hev 3 33 (by kernel_rfl) (by decide) rfl) rfl (idx_at W (by omega) (by omega))
    · exact absurd rfl k2
    · cases ho
  · intro w3 hrow honly
    have hs3 := honly.size
    have HBK3 := Lib.hid (honly.blk HBK.out hgne)
    have y3 : w3.cell? ⟨gh, 0, none⟩ = some (.slice (some ⟨g, 0, none⟩) n cp) := (HBK3.out.cell 0).trans rfl
    have f3 := HBK3.out.frozen 0
    have HB3 : Hid (Below B w w3) := Lib.hid (honly.below hgB (by omega))
    have HFR3 : Hid (Fr gh (some g) w w3) := Lib.hid ((Fr.refl gh (some g) w).only honly (.inr (.inl rfl)))
    have HROW := Lib.hid hrow
    simp only [putP, Exit.then, Act.put, List.setIfInBounds_toArray, List.set_cons_zero, List.set_cons_succ]
    clear hl0 fa0 hrow honly z0
    have hh3 : gh < w3.heap.size := by omega
    go_wp2
    have HH4 : Hid (HI (w3.setCell ⟨gh, 0, none⟩ (.slice (some ⟨g, 0, none⟩) m cp)) B gh (.func (.func gc) #[] FR) (some ⟨g, 0, none⟩) cp (cutLast d) ∧ (cutLast d).length = m) := Lib.hid (by
      have el : (cutLast d).length = m := by rw [cutLast_len, HCUT.out.2, Nat.add_sub_cancel]
      refine ⟨⟨?_, hlow, ?_⟩, el⟩
      · rw [el]
        have := HBK3.out.set_ 0 (.slice (some ⟨g, 0, none⟩) m cp)
        simp only [List.setIfInBounds_toArray, List.set_cons_zero, List.set_cons_succ] at this
        exact this
      · rw [el, HCUT.out.1, ← flatMap_take okI.len]
        have h1 := own_prefix HROW.out (k := m) (by rw [List.length_set]; omega)
        exact own_not' h1 ((Only.refl gh w3).setCell (p := ⟨gh, 0, none⟩) (.inl rfl) (.slice (some ⟨g, 0, none⟩) m cp)) (by show some g ≠ some gh; simp; exact fun e => hgne e.symm))
    have HB4 : Hid (Below B w (w3.setCell ⟨gh, 0, none⟩ (.slice (some ⟨g, 0, none⟩) m cp))) := Lib.hid (HB3.out.setCell hlow _)
    have HK4 : Hid (K (w3.setCell ⟨gh, 0, none⟩ (.slice (some ⟨g, 0, none⟩) m cp))) := Lib.hid (HA.out.keep _ _ HK.out HB4.out)
    have HB44 : Hid (Below B (w3.setCell ⟨gh, 0, none⟩ (.slice (some ⟨g, 0, none⟩) m cp)) (w3.setCell ⟨gh, 0, none⟩ (.slice (some ⟨g, 0, none⟩) m cp)) ∧ Fr gh (some g) w (w3.setCell ⟨gh, 0, none⟩ (.slice (some ⟨g, 0, none⟩) m cp))) := Lib.hid ⟨Below.refl _ _, HFR3.out.only ((Only.refl gh w3).setCell (p := ⟨gh, 0, none⟩) (.inl rfl) _) (.inl rfl)⟩
    generalize w3.setCell ⟨gh, 0, none⟩ (.slice (some ⟨g, 0, none⟩) m cp) = w4 at *
    clear y3 f3 y0 hd1 hd2
    obtain ⟨d4, hd4⟩ : ∃ d4, d4 = cutLast d := ⟨_, rfl⟩
    have HD4 := Lib.hid hd4
    rw [← hd4] at HH4 HDN
    clear hd4 HCUT HROW HR HBK HBK3 hs3 hh3
    go_loopw [2, 5] (fun vx vi wx => ∃ (i : Nat) (d : List Int), i ≤ m ∧ m ≤ d.length ∧ d.length ≤ m ∧ vx = .int .i64 x0 ∧ vi = .int .i64 (i : Int) ∧ Hid (HI wx B gh (.func (.func gc) #[] FR) (some ⟨g, 0, none⟩) cp d) ∧ Hid (Down lt d i ∧ d.Perm d4) ∧ Hid (Below B w4 wx ∧ Fr gh (some g) w wx)) (fun _ vi _ => m - (intOf vi).toNat)
    case atStart => exact ⟨0, d4, Nat.zero_le _, by rw [HH4.out.2]; exact Nat.le_refl _, by rw [HH4.out.2]; exact Nat.le_refl _, rfl, rfl, Lib.hid HH4.out.1, Lib.hid ⟨HDN.out, List.Perm.refl _⟩, HB44⟩
    case round =>
      clear HH4 HDN
      have HDD : Hid (d4 = cutLast d) := HD4
      obtain ⟨dz, hdz⟩ : ∃ dz, dz = d := ⟨_, rfl⟩
      subst hdz
      obtain ⟨i, d, hin, hd1, hd2, rfl, rfl, HH2, HU, HB⟩ := hrel
      have HED : Hid (d.length = m) := Lib.hid (by omega)
      have HF : Hid (∀ W, Below wr.heap.size wr W → (∀ j, 0 < j → j < d.length → (j - 1) / 2 = i → lt (gt d j) (gt d i) = false) → HeapR B gh (.func (.func gc) #[] FR) lt (some g) w.heap.size (cutLast dz) W) := Lib.hid fun W hW hk => ⟨_, _, d, HH2.out.below hW, HU.out.1.stop hk, by rw [← HDD.out]; exact HU.out.2, .inl rfl⟩
      by_cases hkm : 2 * i + 1 < m
      · obtain ⟨k, hk⟩ : ∃ k, k = 2 * i + 1 := ⟨_, rfl⟩
        have HKE := Lib.hid hk
        have hk1 : k < m := by omega
        have hik : i < k := by omega
        have hk0 : 0 < k := by omega
        have ek : 2 * (i : Int) + 1 = (k : Int) := by omega
        have EK := Lib.hid ek
        have HRr : Hid (RowG encI wr B g cp d) := Lib.hid HH2.out.row
        have hblk := HH2.out.blk
        rw [HED.out] at hblk
        have HBK := Lib.hid hblk
        have hglt := hblk.lt
        have hglt2 := HRr.out.lt.2
        have fa0 := field0 gh
        have fa1 := field1 gh
        have Hent : Hid (∀ args W, (callFunc gc args).run Try.prog W = .ok (.enter gc args) W) := Lib.hid HA.out.enter
        have HKW : Hid (∀ W, Below B wr W → K W) := Lib.hid fun W hW => HA.out.keep _ _ (HA.out.keep _ _ HK4.out HB.out.1) hW
        clear hk ek hblk
        have hl0 := fun W (hW : Below wr.heap.size wr W) => load_l W (((HBK.out.below hW hglt).cell 0).trans rfl : W.cell? ⟨gh, 0, none⟩ = some (.slice (some ⟨g, 0, none⟩) m cp))
        have hl1 := fun W (hW : Below wr.heap.size wr W) => load_f W (((HBK.out.below hW hglt).cell 1).trans rfl : W.cell? ⟨gh, 1, none⟩ = some (.func (.func gc) #[] FR))
        have hld_k := fun W (hW : Below wr.heap.size wr W) => okI.ld W g (k * encI.sz) (gt d k) fun j v hv => (HRr.out.below hW).cell okI (by omega) hv
        go_wp2_with fail
        rw [EK.out]
        by_cases hk2 : k + 1 < m
        · have hld_k1 := fun W (hW : Below wr.heap.size wr W) => okI.ld W g ((k + 1) * encI.sz) (gt d (k + 1)) fun j v hv => (HRr.out.below hW).cell okI (by omega) hv
          have Hask : Hid (∀ W, Below wr.heap.size wr W → Calls Try.prog gc (#[encI.vf (gt d (k + 1)), encI.vf (gt d k)] ++ FR) W fun e W' => e = .returned (.bool (lt (gt d (k + 1)) (gt d k))) ∧ Below W.heap.size W W') := Lib.hid fun W hW => HA.out.call _ _ W (HKW.out _ (hW.mono (by omega)))
          refine wp_ask (by kernel_rfl) (by kernel_rfl) (fun q_ => (#[.int .i64 ((k : Int)), .int .i64 ((k : Int) + 1), .int .i64 ((m : Int)), .bool (true), .bool (true), .pointer (some ⟨gh, 0, none⟩), .pointer (some ⟨gh, 0, none⟩), .pointer (some ⟨gh, 1, none⟩), .func (.func gc) #[] FR, .pointer (some ⟨gh, 0, none⟩), .pointer (some ⟨gh, 0, none⟩), .pointer (some ⟨gh, 0, none⟩), .slice (some ⟨g, 0, none⟩) m cp, .int .i64 ((k : Int)), .int .i64 ((k : Int) + 1), .pointer (some ⟨g, (k + 1) * encI.sz, none⟩), encI.vf (gt d (k + 1)), .pointer (some ⟨gh, 0, none⟩), .pointer (some ⟨gh, 0, none⟩), .pointer (some ⟨gh, 0, none⟩), .slice (some ⟨g, 0, none⟩) m cp, .int .i64 ((k : Int)), .pointer (some ⟨g, (k) * encI.sz, none⟩), encI.vf (gt d (k)), .bool (lt (gt d (k + 1)) (gt d (k))), .bool (lt (gt d (k + 1)) (gt d (k)))] : Array Value).getD q_ undef) 24 _ _ (fun q_ o ho b hvl => wanted_of (gk := 4) (want := true) (by kernel_rfl) ho (fun hw0 => hvl 4 62 hw0 rfl) rfl rfl) ?_ Hask.out ?_ [(some 58, .int .i64 ((k : Int))), (some 59, .int .i64 ((k : Int) + 1)), (some 60, .int .i64 ((m : Int))), (some 61, .bool (true)), (some 62, .bool (true)), (some 63, .pointer (some ⟨gh, 0, none⟩)), (some 64, .pointer (some ⟨gh, 0, none⟩)), (some 65, .pointer (some ⟨gh, 1, none⟩)), (some 66, .func (.func gc) #[] FR), (some 67, .pointer (some ⟨gh, 0, none⟩)), (some 68, .pointer (some ⟨gh, 0, none⟩)), (some 69, .pointer (some ⟨gh, 0, none⟩)), (some 70, .slice (some ⟨g, 0, none⟩) m cp), (some 71, .int .i64 ((k : Int))), (some 72, .int .i64 ((k : Int) + 1)), (some 73, .pointer (some ⟨g, (k + 1) * encI.sz, none⟩)), (some 74, encI.vf (gt d (k + 1))), (some 75, .pointer (some ⟨gh, 0, none⟩)), (some 76, .pointer (some ⟨gh, 0, none⟩)), (some 77, .pointer (some ⟨gh, 0, none⟩)), (some 78, .slice (some ⟨g, 0, none⟩) m cp), (some 79, .int .i64 ((k : Int))), (some 80, .pointer (some ⟨g, (k) * encI.sz, none⟩)), (some 81, encI.vf (gt d (k))), (some 82, .bool (lt (gt d (k + 1)) (gt d (k)))), (some 83, .bool (lt (gt d (k + 1)) (gt d (k))))] rfl ?_
          · intro o ho b W hev
            cases ho
            exact run_callv W 66 74 81 rfl (hev 8 66 (by kernel_rfl) rfl) (hev 16 74 (by kernel_rfl) rfl) (hev 23 81 (by kernel_rfl) rfl) (Hent.out _ _)
          · intro q_ o ho k1 b W hW hev hout
            rcases q_ with _ | _ | _ | _ | _ | _ | _ | _ | _ | _ | _ | _ | _ | _ | _ | _ | _ | _ | _ | _ | _ | _ | _ | _ | _ | _ | q_
            · cases ho
              exact run_move W (.tmp 6) rfl ((hout 6 (by kernel_rfl)).trans rfl)
            · cases ho
              exact run_add W (.tmp 58) (.const (.int .i64 1)) rfl (hev 0 58 (by kernel_rfl) rfl) rfl (IntWalk.i64_in _ (by omega))
            · cases ho
              exact run_move W (.tmp 4) rfl ((hout 4 (by kernel_rfl)).trans rfl)
            · cases ho
              exact run_lss W (.tmp 59) (.tmp 60) rfl (hev 1 59 (by kernel_rfl) rfl) (hev 2 60 (by kernel_rfl) rfl) (by omega)
            · cases ho
              exact run_move W (.tmp 61) rfl (hev 3 61 (by kernel_rfl) rfl)
            · cases ho
              exact run_move W (.tmp 0) rfl ((hout 0 (by kernel_rfl)).trans rfl)
            · cases ho
              exact run_nil W (.tmp 63) rfl (hev 5 63 (by kernel_rfl) rfl)
            · cases ho
              exact run_fa W (.tmp 64) rfl (hev 6 64 (by kernel_rfl) rfl) fa1
            · cases ho
              exact run_load (.tmp 65) rfl (hev 7 65 (by kernel_rfl) rfl) (hl1 W hW)
            · cases ho
              exact run_move W (.tmp 0) rfl ((hout 0 (by kernel_rfl)).trans rfl)
            · cases ho
              exact run_nil W (.tmp 67) rfl (hev 9 67 (by kernel_rfl) rfl)
            · cases ho
              exact run_fa W (.tmp 68) rfl (hev 10 68 (by kernel_rfl) rfl) fa0
            · cases ho
              exact run_load (.tmp 69) rfl (hev 11 69 (by kernel_rfl) rfl) (hl0 W hW)
            · cases ho
              exact run_move W (.tmp 6) rfl ((hout 6 (by kernel_rfl)).trans rfl)
            · cases ho
              exact run_add W (.tmp 71) (.const (.int .i64 1)) rfl (hev 13 71 (by kernel_rfl) rfl) rfl (IntWalk.i64_in _ (by omega))
            · cases ho
              exact run_idxv W (.tmp 70) (.tmp 72) rfl (hev 12 70 (by kernel_rfl) rfl) (hev 14 72 (by kernel_rfl) rfl) (idx_at W (by omega) (by omega))
            · cases ho
              exact run_load (.tmp 73) rfl (hev 15 73 (by kernel_rfl) rfl) (hld_k1 W hW)
            · cases ho
              exact run_move W (.tmp 0) rfl ((hout 0 (by kernel_rfl)).trans rfl)
            · cases ho
              exact run_nil W (.tmp 75) rfl (hev 17 75 (by kernel_rfl) rfl)
            · cases ho
              exact run_fa W (.tmp 76) rfl (hev 18 76 (by kernel_rfl) rfl) fa0
            · cases ho
              exact run_load (.tmp 77) rfl (hev 19 77 (by kernel_rfl) rfl) (hl0 W hW)
            · cases ho
              exact run_move W (.tmp 6) rfl ((hout 6 (by kernel_rfl)).trans rfl)
            · cases ho
              exact run_idxv W (.tmp 78) (.tmp 79) rfl (hev 20 78 (by kernel_rfl) rfl) (hev 21 79 (by kernel_rfl) rfl) (idx_at W (by omega) (by omega))
            · cases ho
              exact run_load (.tmp 80) rfl (hev 22 80 (by kernel_rfl) rfl) (hld_k W hW)
            · exact absurd rfl k1
            · cases ho
              exact run_pick W (.tmp 62) (.tmp 82) rfl (hev 4 62 (by kernel_rfl) rfl) (hev 24 82 (by kernel_rfl) rfl)
            · cases ho
          · intro w5 hb5
            simp only [putP, Exit.then, Act.put, List.setIfInBounds_toArray, List.set_cons_zero, List.set_cons_succ]
            clear hl0 hl1 hld_k hld_k1 Hask
            cases hbb : lt (gt d (k + 1)) (gt d k)
            · have HS : Hid (∀ j, 0 < j → j < d.length → (j - 1) / 2 = i → lt (gt d j) (gt d k) = false) := Lib.hid fun j j0 _ hp => by
                rcases kids HKE.out j0 hp with rfl | rfl
                · exact HO.out.irr _
                · exact hbb
              have HKP : Hid ((k - 1) / 2 = i) := Lib.hid (by have := HKE.out; omega)
              clear hbb hk2
              have hs5 := hb5.size
              have HH5 : Hid (HI w5 B gh (.func (.func gc) #[] FR) (some ⟨g, 0, none⟩) cp d) := Lib.hid (HH2.out.below hb5)
              have HR : Hid (RowG encI w5 B g cp d) := Lib.hid HH5.out.row
              have HBK5 := Lib.hid (HBK.out.below hb5 hglt)
              have HB5 := Lib.hid (⟨HB.out.1.trans (hb5.mono (by omega)), HB.out.2.below hb5⟩ : _ ∧ _)
              have hglt5 : gh < w5.heap.size := by omega
              have hg5 : g < w5.heap.size := by omega
              have hl0 := fun W (hW : Below w5.heap.size w5 W) => load_l W (((HBK5.out.below hW hglt5).cell 0).trans rfl : W.cell? ⟨gh, 0, none⟩ = some (.slice (some ⟨g, 0, none⟩) m cp))
              have hl1 := fun W (hW : Below w5.heap.size w5 W) => load_f W (((HBK5.out.below hW hglt5).cell 1).trans rfl : W.cell? ⟨gh, 1, none⟩ = some (.func (.func gc) #[] FR))
              have hld_k := fun W (hW : Below w5.heap.size w5 W) => okI.ld W g (k * encI.sz) (gt d k) fun j v hv => (HR.out.below hW).cell okI (by omega) hv
              have hld_i := fun W (hW : Below w5.heap.size w5 W) => okI.ld W g (i * encI.sz) (gt d i) fun j v hv => (HR.out.below hW).cell okI (by omega) hv
              have Hask : Hid (∀ W, Below w5.heap.size w5 W → Calls Try.prog gc (#[encI.vf (gt d k), encI.vf (gt d i)] ++ FR) W fun e W' => e = .returned (.bool (lt (gt d k) (gt d i))) ∧ Below W.heap.size W W') := Lib.hid fun W hW => HA.out.call _ _ W (HKW.out _ ((hb5.mono (by omega)).trans (hW.mono (by omega))))
              have HB5r := Lib.hid hb5
              clear hb5
              go_wp2_with fail
              refine wp_ask (by kernel_rfl) (by kernel_rfl) (fun q_ => (#[.pointer (some ⟨gh, 0, none⟩), .pointer (some ⟨gh, 0, none⟩), .pointer (some ⟨gh, 1, none⟩), .func (.func gc) #[] FR, .pointer (some ⟨gh, 0, none⟩), .pointer (some ⟨gh, 0, none⟩), .pointer (some ⟨gh, 0, none⟩), .slice (some ⟨g, 0, none⟩) m cp, .int .i64 ((k : Int)), .pointer (some ⟨g, (k) * encI.sz, none⟩), encI.vf (gt d (k)), .pointer (some ⟨gh, 0, none⟩), .pointer (some ⟨gh, 0, none⟩), .pointer (some ⟨gh, 0, none⟩), .slice (some ⟨g, 0, none⟩) m cp, .int .i64 ((i : Int)), .pointer (some ⟨g, (i) * encI.sz, none⟩), encI.vf (gt d (i)), .bool (lt (gt d (k)) (gt d (i))), .bool (!(lt (gt d (k)) (gt d (i))))] : Array Value).getD q_ undef) 18 _ _ (fun q_ o ho b _ => wanted_free (by kernel_rfl) ho b) ?_ Hask.out ?_ [(some 86, .pointer (some ⟨gh, 0, none⟩)), (some 87, .pointer (some ⟨gh, 0, none⟩)), (some 88, .pointer (some ⟨gh, 1, none⟩)), (some 89, .func (.func gc) #[] FR), (some 90, .pointer (some ⟨gh, 0, none⟩)), (some 91, .pointer (some ⟨gh, 0, none⟩)), (some 92, .pointer (some ⟨gh, 0, none⟩)), (some 93, .slice (some ⟨g, 0, none⟩) m cp), (some 94, .int .i64 ((k : Int))), (some 95, .pointer (some ⟨g, (k) * encI.sz, none⟩)), (some 96, encI.vf (gt d (k))), (some 97, .pointer (some ⟨gh, 0, none⟩)), (some 98, .pointer (some ⟨gh, 0, none⟩)), (some 99, .pointer (some ⟨gh, 0, none⟩)), (some 100, .slice (some ⟨g, 0, none⟩) m cp), (some 101, .int .i64 ((i : Int))), (some 102, .pointer (some ⟨g, (i) * encI.sz, none⟩)), (some 103, encI.vf (gt d (i))), (some 104, .bool (lt (gt d (k)) (gt d (i)))), (some 105, .bool (!(lt (gt d (k)) (gt d (i)))))] rfl ?_
              · intro o ho b W hev
                cases ho
                exact run_callv W 89 96 103 rfl (hev 3 89 (by kernel_rfl) rfl) (hev 10 96 (by kernel_rfl) rfl) (hev 17 103 (by kernel_rfl) rfl) (Hent.out _ _)
              · intro q_ o ho k1 b W hW hev hout
                rcases q_ with _ | _ | _ | _ | _ | _ | _ | _ | _ | _ | _ | _ | _ | _ | _ | _ | _ | _ | _ | _ | q_
                · cases ho
                  exact run_move W (.tmp 0) rfl ((hout 0 (by kernel_rfl)).trans rfl)
                · cases ho
                  exact run_nil W (.tmp 86) rfl (hev 0 86 (by kernel_rfl) rfl)
                · cases ho
                  exact run_fa W (.tmp 87) rfl (hev 1 87 (by kernel_rfl) rfl) fa1
                · cases ho
                  exact run_load (.tmp 88) rfl (hev 2 88 (by kernel_rfl) rfl) (hl1 W hW)
                · cases ho
                  exact run_move W (.tmp 0) rfl ((hout 0 (by kernel_rfl)).trans rfl)
                · cases ho
                  exact run_nil W (.tmp 90) rfl (hev 4 90 (by kernel_rfl) rfl)
                · cases ho
                  exact run_fa W (.tmp 91) rfl (hev 5 91 (by kernel_rfl) rfl) fa0
                · cases ho
                  exact run_load (.tmp 92) rfl (hev 6 92 (by kernel_rfl) rfl) (hl0 W hW)
                · cases ho
                  exact run_move W (.tmp 6) rfl ((hout 6 (by kernel_rfl)).trans rfl)
                · cases ho
                  exact run_idxv W (.tmp 93) (.tmp 94) rfl (hev 7 93 (by kernel_rfl) rfl) (hev 8 94 (by kernel_rfl) rfl) (idx_at W (by omega) (by omega))
                · cases ho
                  exact run_load (.tmp 95) rfl (hev 9 95 (by kernel_rfl) rfl) (hld_k W hW)
                · cases ho
                  exact run_move W (.tmp 0) rfl ((hout 0 (by kernel_rfl)).trans rfl)
                · cases ho
                  exact run_nil W (.tmp 97) rfl (hev 11 97 (by kernel_rfl) rfl)
                · cases ho
                  exact run_fa W (.tmp 98) rfl (hev 12 98 (by kernel_rfl) rfl) fa0
                · cases ho
                  exact run_load (.tmp 99) rfl (hev 13 99 (by kernel_rfl) rfl) (hl0 W hW)
                · cases ho
                  exact run_move W (.tmp 5) rfl ((hout 5 (by kernel_rfl)).trans rfl)
                · cases ho
                  exact run_idxv W (.tmp 100) (.tmp 101) rfl (hev 14 100 (by kernel_rfl) rfl) (hev 15 101 (by kernel_rfl) rfl) (idx_at W (by omega) (by omega))
                · cases ho
                  exact run_load (.tmp 102) rfl (hev 16 102 (by kernel_rfl) rfl) (hld_i W hW)
                · exact absurd rfl k1
                · cases ho
                  exact run_not W (.tmp 104) rfl (hev 18 104 (by kernel_rfl) rfl)
                · cases ho
              · intro w6 hb6
                have hs6 := hb6.size
                have HR : Hid (RowG encI w6 B g cp d) := Lib.hid (HR.out.below hb6)
                have HBK6 := Lib.hid (HBK5.out.below hb6 hglt5)
                have HB6 := Lib.hid (⟨HB5.out.1.trans (hb6.mono (by omega)), HB5.out.2.below hb6⟩ : _ ∧ _)
                have HST : Hid (lt (gt d k) (gt d i) = false → HeapR B gh (.func (.func gc) #[] FR) lt (some g) w.heap.size (cutLast dz) w6) := Lib.hid fun hl => HF.out _ ((HB5r.out.trans (hb6.mono hs5))) fun j j0 hj hp => HO.out.neg _ _ _ (HS.out j j0 hj hp) hl
                have HNX : Hid (lt (gt d k) (gt d i) = true → Down lt (sw d i k) k) := Lib.hid fun hl => HU.out.1.step HO.out (by omega) (by omega) hk0 HKP.out hl HS.out
                simp only [putP, Exit.then, Act.put, List.setIfInBounds_toArray, List.set_cons_zero, List.set_cons_succ]
                clear hl0 hl1 hld_i hld_k Hask hb6
                cases hbc : lt (gt d k) (gt d i)
                · have HX := Lib.hid (HST.out hbc)
                  clear hbc
                  go_wp2
                  go_ret2
                  exact ⟨rfl, HX.out, HB4.out.trans HB6.out.1, HB6.out.2⟩
                · have HX := Lib.hid (HNX.out hbc)
                  clear hbc
                  have hl0 := fun W (hW : Only g w6 W) => load_l W (((hW.blk HBK6.out hgne).cell 0).trans rfl : W.cell? ⟨gh, 0, none⟩ = some (.slice (some ⟨g, 0, none⟩) m cp))
                  go_wp2_with fail
                  refine wp_exch (by kernel_rfl) (by kernel_rfl) encI okI _ g _ _ (i) (k) (by omega) (by omega) HR.out
                    (fun q_ => (#[.pointer (some ⟨gh, 0, none⟩), .pointer (some ⟨gh, 0, none⟩), .pointer (some ⟨gh, 0, none⟩), .slice (some ⟨g, 0, none⟩) m cp, .int .i64 ((i : Int)), .pointer (some ⟨gh, 0, none⟩), .pointer (some ⟨gh, 0, none⟩), .pointer (some ⟨gh, 0, none⟩), .slice (some ⟨g, 0, none⟩) m cp, .int .i64 ((k : Int)), .pointer (some ⟨gh, 0, none⟩), .pointer (some ⟨gh, 0, none⟩), .pointer (some ⟨gh, 0, none⟩), .slice (some ⟨g, 0, none⟩) m cp, .int .i64 ((k : Int)), .pointer (some ⟨g, (k) * encI.sz, none⟩), encI.vf (gt d (k)), .pointer (some ⟨gh, 0, none⟩), .pointer (some ⟨gh, 0, none⟩), .pointer (some ⟨gh, 0, none⟩), .slice (some ⟨g, 0, none⟩) m cp, .int .i64 ((i : Int)), .pointer (some ⟨g, (i) * encI.sz, none⟩), encI.vf (gt d (i)), .pointer (some ⟨g, (i) * encI.sz, none⟩), undef, .pointer (some ⟨g, (k) * encI.sz, none⟩), undef] : Array Value).getD q_ undef) 16 23 25 27 15 22 24 26 122 129 131 132 123 130 rfl rfl rfl rfl rfl rfl ⟨_, rfl, rfl⟩ ⟨_, rfl, rfl⟩ ⟨_, rfl, rfl, rfl⟩ ⟨_, rfl, rfl, rfl⟩ (by exact ⟨rfl, rfl, rfl, rfl, rfl, rfl⟩) (by kernel_rfl) (by decide) ?_ [(some 107, .pointer (some ⟨gh, 0, none⟩)), (some 108, .pointer (some ⟨gh, 0, none⟩)), (some 109, .pointer (some ⟨gh, 0, none⟩)), (some 110, .slice (some ⟨g, 0, none⟩) m cp), (some 111, .int .i64 ((i : Int))), (some 112, .pointer (some ⟨gh, 0, none⟩)), (some 113, .pointer (some ⟨gh, 0, none⟩)), (some 114, .pointer (some ⟨gh, 0, none⟩)), (some 115, .slice (some ⟨g, 0, none⟩) m cp), (some 116, .int .i64 ((k : Int))), (some 117, .pointer (some ⟨gh, 0, none⟩)), (some 118, .pointer (some ⟨gh, 0, none⟩)), (some 119, .pointer (some ⟨gh, 0, none⟩)), (some 120, .slice (some ⟨g, 0, none⟩) m cp), (some 121, .int .i64 ((k : Int))), (some 122, .pointer (some ⟨g, (k) * encI.sz, none⟩)), (some 123, encI.vf (gt d (k))), (some 124, .pointer (some ⟨gh, 0, none⟩)), (some 125, .pointer (some ⟨gh, 0, none⟩)), (some 126, .pointer (some ⟨gh, 0, none⟩)), (some 127, .slice (some ⟨g, 0, none⟩) m cp), (some 128, .int .i64 ((i : Int))), (some 129, .pointer (some ⟨g, (i) * encI.sz, none⟩)), (some 130, encI.vf (gt d (i))), (some 131, .pointer (some ⟨g, (i) * encI.sz, none⟩)), (none, undef), (some 132, .pointer (some ⟨g, (k) * encI.sz, none⟩)), (none, undef)] rfl ?_ (by exact ⟨by decide, by decide⟩)
                  · intro q_ o ho k1 k2 k3 k4 b W hW hev hout
                    rcases q_ with _ | _ | _ | _ | _ | _ | _ | _ | _ | _ | _ | _ | _ | _ | _ | _ | _ | _ | _ | _ | _ | _ | _ | _ | _ | _ | _ | _ | q_
                    · cases ho
                      exact run_move W (.tmp 0) rfl ((hout 0 (by kernel_rfl)).trans rfl)
                    · cases ho
                      exact run_nil W (.tmp 107) rfl (hev 0 107 (by kernel_rfl) (by decide) (by decide) rfl)
                    · cases ho
                      exact run_fa W (.tmp 108) rfl (hev 1 108 (by kernel_rfl) (by decide) (by decide) rfl) fa0
                    · cases ho
                      exact run_load (.tmp 109) rfl (hev 2 109 (by kernel_rfl) (by decide) (by decide) rfl) (hl0 W hW)
                    · cases ho
                      exact run_move W (.tmp 5) rfl ((hout 5 (by kernel_rfl)).trans rfl)
                    · cases ho
                      exact run_move W (.tmp 0) rfl ((hout 0 (by kernel_rfl)).trans rfl)
                    · cases ho
                      exact run_nil W (.tmp 112) rfl (hev 5 112 (by kernel_rfl) (by decide) (by decide) rfl)
                    · cases ho
                      exact run_fa W (.tmp 113) rfl (hev 6 113 (by kernel_rfl) (by decide) (by decide) rfl) fa0
                    · cases ho
                      exact run_load (.tmp 114) rfl (hev 7 114 (by kernel_rfl) (by decide) (by decide) rfl) (hl0 W hW)
                    · cases ho
                      exact run_move W (.tmp 6) rfl ((hout 6 (by kernel_rfl)).trans rfl)
                    · cases ho
                      exact run_move W (.tmp 0) rfl ((hout 0 (by kernel_rfl)).trans rfl)
                    · cases ho
                      exact run_nil W (.tmp 117) rfl (hev 10 117 (by kernel_rfl) (by decide) (by decide) rfl)
                    · cases ho
                      exact run_fa W (.tmp 118) rfl (hev 11 118 (by kernel_rfl) (by decide) (by decide) rfl) fa0
                    · cases ho
                      exact run_load (.tmp 119) rfl (hev 12 119 (by kernel_rfl) (by decide) (by decide) rfl) (hl0 W hW)
                    · cases ho
                      exact run_move W (.tmp 6) rfl ((hout 6 (by kernel_rfl)).trans rfl)
                    · cases ho
                      exact run_idxv W (.tmp 120) (.tmp 121) rfl (hev 13 120 (by kernel_rfl) (by decide) (by decide) rfl) (hev 14 121 (by kernel_rfl) (by decide) (by decide) rfl) (idx_at W (by omega) (by omega))
                    · exact absurd rfl k1
                    · cases ho
                      exact run_move W (.tmp 0) rfl ((hout 0 (by kernel_rfl)).trans rfl)
                    · cases ho
                      exact run_nil W (.tmp 124) rfl (hev 17 124 (by kernel_rfl) (by decide) (by decide) rfl)
                    · cases ho
                      exact run_fa W (.tmp 125) rfl (hev 18 125 (by kernel_rfl) (by decide) (by decide) rfl) fa0
                    · cases ho
                      exact run_load (.tmp 126) rfl (hev 19 126 (by kernel_rfl) (by decide) (by decide) rfl) (hl0 W hW)
                    · cases ho
                      exact run_move W (.tmp 5) rfl ((hout 5 (by kernel_rfl)).trans rfl)
                    · cases ho
                      exact run_idxv W (.tmp 127) (.tmp 128) rfl (hev 20 127 (by kernel_rfl) (by decide) (by decide) rfl) (hev 21 128 (by kernel_rfl) (by decide) (by decide) rfl) (idx_at W (by omega) (by omega))
                    · exact absurd rfl k2
                    · cases ho
                      exact run_idxv W (.tmp 110) (.tmp 111) rfl (hev 3 110 (by kernel_rfl) (by decide) (by decide) rfl) (hev 4 111 (by kernel_rfl) (by decide) (by decide) rfl) (idx_at W (by omega) (by omega))
                    · exact absurd rfl k3
                    · cases ho
                      exact run_idxv W (.tmp 115) (.tmp 116) rfl (hev 8 115 (by kernel_rfl) (by decide) (by decide) rfl) (hev 9 116 (by kernel_rfl) (by decide) (by decide) rfl) (idx_at W (by omega) (by omega))
                    · exact absurd rfl k4
                    · cases ho
                  · intro w7 hrow honly
                    have HH7 : Hid (HI w7 B gh (.func (.func gc) #[] FR) (some ⟨g, 0, none⟩) cp (sw d i k)) := Lib.hid ⟨by rw [sw_len, HED.out]; exact honly.blk HBK6.out hgne, hlow, hrow⟩
                    have HU7 := Lib.hid (⟨HX.out, (sw_perm (d := d) (p := i) (q := k) (by omega) (by omega)).trans HU.out.2⟩ : _ ∧ _)
                    have HB7 := Lib.hid (⟨HB6.out.1.trans (honly.below hgB (by omega)), HB6.out.2.only honly (.inr (.inl rfl))⟩ : _ ∧ _)
                    have e1 : (sw d i k).length = d.length := sw_len _ _ _
                    have e2 : m ≤ (sw d i k).length := by omega
                    have e3 : (sw d i k).length ≤ m := by omega
                    simp only [putP, Exit.then, Act.put, List.setIfInBounds_toArray, List.set_cons_zero, List.set_cons_succ]
                    clear hl0 e1 hrow honly HST HNX
                    generalize sw d i k = d7 at *
                    go_wp2
                    go_roundw
                    case rel => exact ⟨k, d7, by omega, e2, e3, rfl, rfl, HH7, HU7, HB7⟩
                    case measure => simp [intOf]; omega
            · have HS0 : Hid (∀ j, 0 < j → j < d.length → (j - 1) / 2 = i → lt (gt d j) (gt d (k + 1)) = false) := Lib.hid fun j j0 _ hp => by
                rcases kids HKE.out j0 hp with rfl | rfl
                · exact HO.out.asym hbb
                · exact HO.out.irr _
              have HKP0 : Hid ((k + 1 - 1) / 2 = i) := Lib.hid (by have := HKE.out; omega)
              have e2 : (k : Int) + 1 = ((k + 1 : Nat) : Int) := by omega
              have E2 := Lib.hid e2
              clear hbb e2
              go_wp2_with fail
              rw [E2.out]
              clear E2
              have hk1 : k + 1 < m := hk2
              have hik : i < k + 1 := by omega
              have hk0 : 0 < k + 1 := by omega
              clear hk2 EK HKE
              obtain ⟨kz, hkz⟩ : ∃ kz, kz = k + 1 := ⟨_, rfl⟩
              rw [← hkz] at HS0 HKP0 hk1 hik hk0 ⊢
              clear hkz
              obtain ⟨k, hkz⟩ : ∃ k, k = kz := ⟨_, rfl⟩
              subst hkz
              have HS := HS0
              have HKP := HKP0
              have hs5 := hb5.size
              have HH5 : Hid (HI w5 B gh (.func (.func gc) #[] FR) (some ⟨g, 0, none⟩) cp d) := Lib.hid (HH2.out.below hb5)
              have HR : Hid (RowG encI w5 B g cp d) := Lib.hid HH5.out.row
              have HBK5 := Lib.hid (HBK.out.below hb5 hglt)
              have HB5 := Lib.hid (⟨HB.out.1.trans (hb5.mono (by omega)), HB.out.2.below hb5⟩ : _ ∧ _)
              have hglt5 : gh < w5.heap.size := by omega
              have hg5 : g < w5.heap.size := by omega
              have hl0 := fun W (hW : Below w5.heap.size w5 W) => load_l W (((HBK5.out.below hW hglt5).cell 0).trans rfl : W.cell? ⟨gh, 0, none⟩ = some (.slice (some ⟨g, 0, none⟩) m cp))
              have hl1 := fun W (hW : Below w5.heap.size w5 W) => load_f W (((HBK5.out.below hW hglt5).cell 1).trans rfl : W.cell? ⟨gh, 1, none⟩ = some (.func (.func gc) #[] FR))
              have hld_k := fun W (hW : Below w5.heap.size w5 W) => okI.ld W g (k * encI.sz) (gt d k) fun j v hv => (HR.out.below hW).cell okI (by omega) hv
              have hld_i := fun W (hW : Below w5.heap.size w5 W) => okI.ld W g (i * encI.sz) (gt d i) fun j v hv => (HR.out.below hW).cell okI (by omega) hv
              have Hask : Hid (∀ W, Below w5.heap.size w5 W → Calls Try.prog gc (#[encI.vf (gt d k), encI.vf (gt d i)] ++ FR) W fun e W' => e = .returned (.bool (lt (gt d k) (gt d i))) ∧ Below W.heap.size W W') := Lib.hid fun W hW => HA.out.call _ _ W (HKW.out _ ((hb5.mono (by omega)).trans (hW.mono (by omega))))
              have HB5r := Lib.hid hb5
              clear hb5
              go_wp2_with fail
              refine wp_ask (by kernel_rfl) (by kernel_rfl) (fun q_ => (#[.pointer (some ⟨gh, 0, none⟩), .pointer (some ⟨gh, 0, none⟩), .pointer (some ⟨gh, 1, none⟩), .func (.func gc) #[] FR, .pointer (some ⟨gh, 0, none⟩), .pointer (some ⟨gh, 0, none⟩), .pointer (some ⟨gh, 0, none⟩), .slice (some ⟨g, 0, none⟩) m cp, .int .i64 ((k : Int)), .pointer (some ⟨g, (k) * encI.sz, none⟩), encI.vf (gt d (k)), .pointer (some ⟨gh, 0, none⟩), .pointer (some ⟨gh, 0, none⟩), .pointer (some ⟨gh, 0, none⟩), .slice (some ⟨g, 0, none⟩) m cp, .int .i64 ((i : Int)), .pointer (some ⟨g, (i) * encI.sz, none⟩), encI.vf (gt d (i)), .bool (lt (gt d (k)) (gt d (i))), .bool (!(lt (gt d (k)) (gt d (i))))] : Array Value).getD q_ undef) 18 _ _ (fun q_ o ho b _ => wanted_free (by kernel_rfl) ho b) ?_ Hask.out ?_ [(some 86, .pointer (some ⟨gh, 0, none⟩)), (some 87, .pointer (some ⟨gh, 0, none⟩)), (some 88, .pointer (some ⟨gh, 1, none⟩)), (some 89, .func (.func gc) #[] FR), (some 90, .pointer (some ⟨gh, 0, none⟩)), (some 91, .pointer (some ⟨gh, 0, none⟩)), (some 92, .pointer (some ⟨gh, 0, none⟩)), (some 93, .slice (some ⟨g, 0, none⟩) m cp), (some 94, .int .i64 ((k : Int))), (some 95, .pointer (some ⟨g, (k) * encI.sz, none⟩)), (some 96, encI.vf (gt d (k))), (some 97, .pointer (some ⟨gh, 0, none⟩)), (some 98, .pointer (some ⟨gh, 0, none⟩)), (some 99, .pointer (some ⟨gh, 0, none⟩)), (some 100, .slice (some ⟨g, 0, none⟩) m cp), (some 101, .int .i64 ((i : Int))), (some 102, .pointer (some ⟨g, (i) * encI.sz, none⟩)), (some 103, encI.vf (gt d (i))), (some 104, .bool (lt (gt d (k)) (gt d (i)))), (some 105, .bool (!(lt (gt d (k)) (gt d (i)))))] rfl ?_
              · intro o ho b W hev
                cases ho
                exact run_callv W 89 96 103 rfl (hev 3 89 (by kernel_rfl) rfl) (hev 10 96 (by kernel_rfl) rfl) (hev 17 103 (by kernel_rfl) rfl) (Hent.out _ _)
              · intro q_ o ho k1 b W hW hev hout
                rcases q_ with _ | _ | _ | _ | _ | _ | _ | _ | _ | _ | _ | _ | _ | _ | _ | _ | _ | _ | _ | _ | q_
                · cases ho
                  exact run_move W (.tmp 0) rfl ((hout 0 (by kernel_rfl)).trans rfl)
                · cases ho
                  exact run_nil W (.tmp 86) rfl (hev 0 86 (by kernel_rfl) rfl)
                · cases ho
                  exact run_fa W (.tmp 87) rfl (hev 1 87 (by kernel_rfl) rfl) fa1
                · cases ho
                  exact run_load (.tmp 88) rfl (hev 2 88 (by kernel_rfl) rfl) (hl1 W hW)
                · cases ho
                  exact run_move W (.tmp 0) rfl ((hout 0 (by kernel_rfl)).trans rfl)
                · cases ho
                  exact run_nil W (.tmp 90) rfl (hev 4 90 (by kernel_rfl) rfl)
                · cases ho
                  exact run_fa W (.tmp 91) rfl (hev 5 91 (by kernel_rfl) rfl) fa0
                · cases ho
                  exact run_load (.tmp 92) rfl (hev 6 92 (by kernel_rfl) rfl) (hl0 W hW)
                · cases ho
                  exact run_move W (.tmp 6) rfl ((hout 6 (by kernel_rfl)).trans rfl)
                · cases ho
                  exact run_idxv W (.tmp 93) (.tmp 94) rfl (hev 7 93 (by kernel_rfl) rfl) (hev 8 94 (by kernel_rfl) rfl) (idx_at W (by omega) (by omega))
                · cases ho
                  exact run_load (.tmp 95) rfl (hev 9 95 (by kernel_rfl) rfl) (hld_k W hW)
                · cases ho
                  exact run_move W (.tmp 0) rfl ((hout 0 (by kernel_rfl)).trans rfl)
                · cases ho
                  exact run_nil W (.tmp 97) rfl (hev 11 97 (by kernel_rfl) rfl)
                · cases ho
                  exact run_fa W (.tmp 98) rfl (hev 12 98 (by kernel_rfl) rfl) fa0
                · cases ho
                  exact run_load (.tmp 99) rfl (hev 13 99 (by kernel_rfl) rfl) (hl0 W hW)
                · cases ho
                  exact run_move W (.tmp 5) rfl ((hout 5 (by kernel_rfl)).trans rfl)
                · cases ho
                  exact run_idxv W (.tmp 100) (.tmp 101) rfl (hev 14 100 (by kernel_rfl) rfl) (hev 15 101 (by kernel_rfl) rfl) (idx_at W (by omega) (by omega))
                · cases ho
                  exact run_load (.tmp 102) rfl (hev 16 102 (by kernel_rfl) rfl) (hld_i W hW)
                · exact absurd rfl k1
                · cases ho
                  exact run_not W (.tmp 104) rfl (hev 18 104 (by kernel_rfl) rfl)
                · cases ho
              · intro w6 hb6
                have hs6 := hb6.size
                have HR : Hid (RowG encI w6 B g cp d) := Lib.hid (HR.out.below hb6)
                have HBK6 := Lib.hid (HBK5.out.below hb6 hglt5)
                have HB6 := Lib.hid (⟨HB5.out.1.trans (hb6.mono (by omega)), HB5.out.2.below hb6⟩ : _ ∧ _)
                have HST : Hid (lt (gt d k) (gt d i) = false → HeapR B gh (.func (.func gc) #[] FR) lt (some g) w.heap.size (cutLast dz) w6) := Lib.hid fun hl => HF.out _ ((HB5r.out.trans (hb6.mono hs5))) fun j j0 hj hp => HO.out.neg _ _ _ (HS.out j j0 hj hp) hl
                have HNX : Hid (lt (gt d k) (gt d i) = true → Down lt (sw d i k) k) := Lib.hid fun hl => HU.out.1.step HO.out (by omega) (by omega) hk0 HKP.out hl HS.out
                simp only [putP, Exit.then, Act.put, List.setIfInBounds_toArray, List.set_cons_zero, List.set_cons_succ]
                clear hl0 hl1 hld_i hld_k Hask hb6
                cases hbc : lt (gt d k) (gt d i)
                · have HX := Lib.hid (HST.out hbc)
                  clear hbc
                  go_wp2
                  go_ret2
                  exact ⟨rfl, HX.out, HB4.out.trans HB6.out.1, HB6.out.2⟩
                · have HX := Lib.hid (HNX.out hbc)
                  clear hbc
                  have hl0 := fun W (hW : Only g w6 W) => load_l W (((hW.blk HBK6.out hgne).cell 0).trans rfl : W.cell? ⟨gh, 0, none⟩ = some (.slice (some ⟨g, 0, none⟩) m cp))
                  go_wp2_with fail
                  refine wp_exch (by kernel_rfl) (by kernel_rfl) encI okI _ g _ _ (i) (k) (by omega) (by omega) HR.out
                    (fun q_ => (#[.pointer (some ⟨gh, 0, none⟩), .pointer (some ⟨gh, 0, none⟩), .pointer (some ⟨gh, 0, none⟩), .slice (some ⟨g, 0, none⟩) m cp, .int .i64 ((i : Int)), .pointer (some ⟨gh, 0, none⟩), .pointer (some ⟨gh, 0, none⟩), .pointer (some ⟨gh, 0, none⟩), .slice (some ⟨g, 0, none⟩) m cp, .int .i64 ((k : Int)), .pointer (some ⟨gh, 0, none⟩), .pointer (some ⟨gh, 0, none⟩), .pointer (some ⟨gh, 0, none⟩), .slice (some ⟨g, 0, none⟩) m cp, .int .i64 ((k : Int)), .pointer (some ⟨g, (k) * encI.sz, none⟩), encI.vf (gt d (k)), .pointer (some ⟨gh, 0, none⟩), .pointer (some ⟨gh, 0, none⟩), .pointer (some ⟨gh, 0, none⟩), .slice (some ⟨g, 0, none⟩) m cp, .int .i64 ((i : Int)), .pointer (some ⟨g, (i) * encI.sz, none⟩), encI.vf (gt d (i)), .pointer (some ⟨g, (i) * encI.sz, none⟩), undef, .pointer (some ⟨g, (k) * encI.sz, none⟩), undef] : Array Value).getD q_ undef) 16 23 25 27 15 22 24 26 122 129 131 132 123 130 rfl rfl rfl rfl rfl rfl ⟨_, rfl, rfl⟩ ⟨_, rfl, rfl⟩ ⟨_, rfl, rfl, rfl⟩ ⟨_, rfl, rfl, rfl⟩ (by exact ⟨rfl, rfl, rfl, rfl, rfl, rfl⟩) (by kernel_rfl) (by decide) ?_ [(some 107, .pointer (some ⟨gh, 0, none⟩)), (some 108, .pointer (some ⟨gh, 0, none⟩)), (some 109, .pointer (some ⟨gh, 0, none⟩)), (some 110, .slice (some ⟨g, 0, none⟩) m cp), (some 111, .int .i64 ((i : Int))), (some 112, .pointer (some ⟨gh, 0, none⟩)), (some 113, .pointer (some ⟨gh, 0, none⟩)), (some 114, .pointer (some ⟨gh, 0, none⟩)), (some 115, .slice (some ⟨g, 0, none⟩) m cp), (some 116, .int .i64 ((k : Int))), (some 117, .pointer (some ⟨gh, 0, none⟩)), (some 118, .pointer (some ⟨gh, 0, none⟩)), (some 119, .pointer (some ⟨gh, 0, none⟩)), (some 120, .slice (some ⟨g, 0, none⟩) m cp), (some 121, .int .i64 ((k : Int))), (some 122, .pointer (some ⟨g, (k) * encI.sz, none⟩)), (some 123, encI.vf (gt d (k))), (some 124, .pointer (some ⟨gh, 0, none⟩)), (some 125, .pointer (some ⟨gh, 0, none⟩)), (some 126, .pointer (some ⟨gh, 0, none⟩)), (some 127, .slice (some ⟨g, 0, none⟩) m cp), (some 128, .int .i64 ((i : Int))), (some 129, .pointer (some ⟨g, (i) * encI.sz, none⟩)), (some 130, encI.vf (gt d (i))), (some 131, .pointer (some ⟨g, (i) * encI.sz, none⟩)), (none, undef), (some 132, .pointer (some ⟨g, (k) * encI.sz, none⟩)), (none, undef)] rfl ?_ (by exact ⟨by decide, by decide⟩)
                  · intro q_ o ho k1 k2 k3 k4 b W hW hev hout
                    rcases q_ with _ | _ | _ | _ | _ | _ | _ | _ | _ | _ | _ | _ | _ | _ | _ | _ | _ | _ | _ | _ | _ | _ | _ | _ | _ | _ | _ | _ | q_
                    · cases ho
                      exact run_move W (.tmp 0) rfl ((hout 0 (by kernel_rfl)).trans rfl)
                    · cases ho
                      exact run_nil W (.tmp 107) rfl (hev 0 107 (by kernel_rfl) (by decide) (by decide) rfl)
                    · cases ho
                      exact run_fa W (.tmp 108) rfl (hev 1 108 (by kernel_rfl) (by decide) (by decide) rfl) fa0
                    · cases ho
                      exact run_load (.tmp 109) rfl (hev 2 109 (by kernel_rfl) (by decide) (by decide) rfl) (hl0 W hW)
                    · cases ho
                      exact run_move W (.tmp 5) rfl ((hout 5 (by kernel_rfl)).trans rfl)
                    · cases ho
                      exact run_move W (.tmp 0) rfl ((hout 0 (by kernel_rfl)).trans rfl)
                    · cases ho
                      exact run_nil W (.tmp 112) rfl (hev 5 112 (by kernel_rfl) (by decide) (by decide) rfl)
                    · cases ho
                      exact run_fa W (.tmp 113) rfl (hev 6 113 (by kernel_rfl) (by decide) (by decide) rfl) fa0
                    · cases ho
                      exact run_load (.tmp 114) rfl (hev 7 114 (by kernel_rfl) (by decide) (by decide) rfl) (hl0 W hW)
                    · cases ho
                      exact run_move W (.tmp 6) rfl ((hout 6 (by kernel_rfl)).trans rfl)
                    · cases ho
                      exact run_move W (.tmp 0) rfl ((hout 0 (by kernel_rfl)).trans rfl)
                    · cases ho
                      exact run_nil W (.tmp 117) rfl (hev 10 117 (by kernel_rfl) (by decide) (by decide) rfl)
                    · cases ho
                      exact run_fa W (.tmp 118) rfl (hev 11 118 (by kernel_rfl) (by decide) (by decide) rfl) fa0
                    · cases ho
                      exact run_load (.tmp 119) rfl (hev 12 119 (by kernel_rfl) (by decide) (by decide) rfl) (hl0 W hW)
                    · cases ho
                      exact run_move W (.tmp 6) rfl ((hout 6 (by kernel_rfl)).trans rfl)
                    · cases ho
                      exact run_idxv W (.tmp 120) (.tmp 121) rfl (hev 13 120 (by kernel_rfl) (by decide) (by decide) rfl) (hev 14 121 (by kernel_rfl) (by decide) (by decide) rfl) (idx_at W (by omega) (by omega))
                    · exact absurd rfl k1
                    · cases ho
                      exact run_move W (.tmp 0) rfl ((hout 0 (by kernel_rfl)).trans rfl)
                    · cases ho
                      exact run_nil W (.tmp 124) rfl (hev 17 124 (by kernel_rfl) (by decide) (by decide) rfl)
                    · cases ho
                      exact run_fa W (.tmp 125) rfl (hev 18 125 (by kernel_rfl) (by decide) (by decide) rfl) fa0
                    · cases ho
                      exact run_load (.tmp 126) rfl (hev 19 126 (by kernel_rfl) (by decide) (by decide) rfl) (hl0 W hW)
                    · cases ho
                      exact run_move W (.tmp 5) rfl ((hout 5 (by kernel_rfl)).trans rfl)
                    · cases ho
                      exact run_idxv W (.tmp 127) (.tmp 128) rfl (hev 20 127 (by kernel_rfl) (by decide) (by decide) rfl) (hev 21 128 (by kernel_rfl) (by decide) (by decide) rfl) (idx_at W (by omega) (by omega))
                    · exact absurd rfl k2
                    · cases ho
                      exact run_idxv W (.tmp 110) (.tmp 111) rfl (hev 3 110 (by kernel_rfl) (by decide) (by decide) rfl) (hev 4 111 (by kernel_rfl) (by decide) (by decide) rfl) (idx_at W (by omega) (by omega))
                    · exact absurd rfl k3
                    · cases ho
                      exact run_idxv W (.tmp 115) (.tmp 116) rfl (hev 8 115 (by kernel_rfl) (by decide) (by decide) rfl) (hev 9 116 (by kernel_rfl) (by decide) (by decide) rfl) (idx_at W (by omega) (by omega))
                    · exact absurd rfl k4
                    · cases ho
                  · intro w7 hrow honly
                    have HH7 : Hid (HI w7 B gh (.func (.func gc) #[] FR) (some ⟨g, 0, none⟩) cp (sw d i k)) := Lib.hid ⟨by rw [sw_len, HED.out]; exact honly.blk HBK6.out hgne, hlow, hrow⟩
                    have HU7 := Lib.hid (⟨HX.out, (sw_perm (d := d) (p := i) (q := k) (by omega) (by omega)).trans HU.out.2⟩ : _ ∧ _)
                    have HB7 := Lib.hid (⟨HB6.out.1.trans (honly.below hgB (by omega)), HB6.out.2.only honly (.inr (.inl rfl))⟩ : _ ∧ _)
                    have e1 : (sw d i k).length = d.length := sw_len _ _ _
                    have e2 : m ≤ (sw d i k).length := by omega
                    have e3 : (sw d i k).length ≤ m := by omega
                    simp only [putP, Exit.then, Act.put, List.setIfInBounds_toArray, List.set_cons_zero, List.set_cons_succ]
                    clear hl0 e1 hrow honly HST HNX
                    generalize sw d i k = d7 at *
                    go_wp2
                    go_roundw
                    case rel => exact ⟨k, d7, by omega, e2, e3, rfl, rfl, HH7, HU7, HB7⟩
                    case measure => simp [intOf]; omega
        · have HS : Hid (∀ j, 0 < j → j < d.length → (j - 1) / 2 = i → lt (gt d j) (gt d k) = false) := Lib.hid fun j j0 hj hp => by
            rcases kids HKE.out j0 hp with rfl | rfl
            · exact HO.out.irr _
            · omega
          have HKP : Hid ((k - 1) / 2 = i) := Lib.hid (by have := HKE.out; omega)
          have t0 : decide ((k : Int) + 1 < (m : Int)) = false := dcf (by omega)
          clear hl0 hl1 hld_k
          go_quiet (fail)
          have hb5 : Below wr.heap.size wr (wr.drewN nq) := below_drewN_ (Below.refl _ _) _
          generalize wr.drewN nq = w5 at *
          clear t0
          have hs5 := hb5.size
          have HH5 : Hid (HI w5 B gh (.func (.func gc) #[] FR) (some ⟨g, 0, none⟩) cp d) := Lib.hid (HH2.out.below hb5)
          have HR : Hid (RowG encI w5 B g cp d) := Lib.hid HH5.out.row
          have HBK5 := Lib.hid (HBK.out.below hb5 hglt)
          have HB5 := Lib.hid (⟨HB.out.1.trans (hb5.mono (by omega)), HB.out.2.below hb5⟩ : _ ∧ _)
          have hglt5 : gh < w5.heap.size := by omega
          have hg5 : g < w5.heap.size := by omega
          have hl0 := fun W (hW : Below w5.heap.size w5 W) => load_l W (((HBK5.out.below hW hglt5).cell 0).trans rfl : W.cell? ⟨gh, 0, none⟩ = some (.slice (some ⟨g, 0, none⟩) m cp))
          have hl1 := fun W (hW : Below w5.heap.size w5 W) => load_f W (((HBK5.out.below hW hglt5).cell 1).trans rfl : W.cell? ⟨gh, 1, none⟩ = some (.func (.func gc) #[] FR))
          have hld_k := fun W (hW : Below w5.heap.size w5 W) => okI.ld W g (k * encI.sz) (gt d k) fun j v hv => (HR.out.below hW).cell okI (by omega) hv
          have hld_i := fun W (hW : Below w5.heap.size w5 W) => okI.ld W g (i * encI.sz) (gt d i) fun j v hv => (HR.out.below hW).cell okI (by omega) hv
          have Hask : Hid (∀ W, Below w5.heap.size w5 W → Calls Try.prog gc (#[encI.vf (gt d k), encI.vf (gt d i)] ++ FR) W fun e W' => e = .returned (.bool (lt (gt d k) (gt d i))) ∧ Below W.heap.size W W') := Lib.hid fun W hW => HA.out.call _ _ W (HKW.out _ ((hb5.mono (by omega)).trans (hW.mono (by omega))))
          have HB5r := Lib.hid hb5
          clear hb5
          go_wp2_with fail
          refine wp_ask (by kernel_rfl) (by kernel_rfl) (fun q_ => (#[.pointer (some ⟨gh, 0, none⟩), .pointer (some ⟨gh, 0, none⟩), .pointer (some ⟨gh, 1, none⟩), .func (.func gc) #[] FR, .pointer (some ⟨gh, 0, none⟩), .pointer (some ⟨gh, 0, none⟩), .pointer (some ⟨gh, 0, none⟩), .slice (some ⟨g, 0, none⟩) m cp, .int .i64 ((k : Int)), .pointer (some ⟨g, (k) * encI.sz, none⟩), encI.vf (gt d (k)), .pointer (some ⟨gh, 0, none⟩), .pointer (some ⟨gh, 0, none⟩), .pointer (some ⟨gh, 0, none⟩), .slice (some ⟨g, 0, none⟩) m cp, .int .i64 ((i : Int)), .pointer (some ⟨g, (i) * encI.sz, none⟩), encI.vf (gt d (i)), .bool (lt (gt d (k)) (gt d (i))), .bool (!(lt (gt d (k)) (gt d (i))))] : Array Value).getD q_ undef) 18 _ _ (fun q_ o ho b _ => wanted_free (by kernel_rfl) ho b) ?_ Hask.out ?_ [(some 86, .pointer (some ⟨gh, 0, none⟩)), (some 87, .pointer (some ⟨gh, 0, none⟩)), (some 88, .pointer (some ⟨gh, 1, none⟩)), (some 89, .func (.func gc) #[] FR), (some 90, .pointer (some ⟨gh, 0, none⟩)), (some 91, .pointer (some ⟨gh, 0, none⟩)), (some 92, .pointer (some ⟨gh, 0, none⟩)), (some 93, .slice (some ⟨g, 0, none⟩) m cp), (some 94, .int .i64 ((k : Int))), (some 95, .pointer (some ⟨g, (k) * encI.sz, none⟩)), (some 96, encI.vf (gt d (k))), (some 97, .pointer (some ⟨gh, 0, none⟩)), (some 98, .pointer (some ⟨gh, 0, none⟩)), (some 99, .pointer (some ⟨gh, 0, none⟩)), (some 100, .slice (some ⟨g, 0, none⟩) m cp), (some 101, .int .i64 ((i : Int))), (some 102, .pointer (some ⟨g, (i) * encI.sz, none⟩)), (some 103, encI.vf (gt d (i))), (some 104, .bool (lt (gt d (k)) (gt d (i)))), (some 105, .bool (!(lt (gt d (k)) (gt d (i)))))] rfl ?_
          · intro o ho b W hev
            cases ho
            exact run_callv W 89 96 103 rfl (hev 3 89 (by kernel_rfl) rfl) (hev 10 96 (by kernel_rfl) rfl) (hev 17 103 (by kernel_rfl) rfl) (Hent.out _ _)
          · intro q_ o ho k1 b W hW hev hout
            rcases q_ with _ | _ | _ | _ | _ | _ | _ | _ | _ | _ | _ | _ | _ | _ | _ | _ | _ | _ | _ | _ | q_
            · cases ho
              exact run_move W (.tmp 0) rfl ((hout 0 (by kernel_rfl)).trans rfl)
            · cases ho
              exact run_nil W (.tmp 86) rfl (hev 0 86 (by kernel_rfl) rfl)
            · cases ho
              exact run_fa W (.tmp 87) rfl (hev 1 87 (by kernel_rfl) rfl) fa1
            · cases ho
              exact run_load (.tmp 88) rfl (hev 2 88 (by kernel_rfl) rfl) (hl1 W hW)
            · cases ho
              exact run_move W (.tmp 0) rfl ((hout 0 (by kernel_rfl)).trans rfl)
            · cases ho
              exact run_nil W (.tmp 90) rfl (hev 4 90 (by kernel_rfl) rfl)
            · cases ho
              exact run_fa W (.tmp 91) rfl (hev 5 91 (by kernel_rfl) rfl) fa0
            · cases ho
              exact run_load (.tmp 92) rfl (hev 6 92 (by kernel_rfl) rfl) (hl0 W hW)
            · cases ho
              exact run_move W (.tmp 6) rfl ((hout 6 (by kernel_rfl)).trans rfl)
            · cases ho
              exact run_idxv W (.tmp 93) (.tmp 94) rfl (hev 7 93 (by kernel_rfl) rfl) (hev 8 94 (by kernel_rfl) rfl) (idx_at W (by omega) (by omega))
            · cases ho
              exact run_load (.tmp 95) rfl (hev 9 95 (by kernel_rfl) rfl) (hld_k W hW)
            · cases ho
              exact run_move W (.tmp 0) rfl ((hout 0 (by kernel_rfl)).trans rfl)
            · cases ho
              exact run_nil W (.tmp 97) rfl (hev 11 97 (by kernel_rfl) rfl)
            · cases ho
              exact run_fa W (.tmp 98) rfl (hev 12 98 (by kernel_rfl) rfl) fa0
            · cases ho
              exact run_load (.tmp 99) rfl (hev 13 99 (by kernel_rfl) rfl) (hl0 W hW)
            · cases ho
              exact run_move W (.tmp 5) rfl ((hout 5 (by kernel_rfl)).trans rfl)
            · cases ho
              exact run_idxv W (.tmp 100) (.tmp 101) rfl (hev 14 100 (by kernel_rfl) rfl) (hev 15 101 (by kernel_rfl) rfl) (idx_at W (by omega) (by omega))
            · cases ho
              exact run_load (.tmp 102) rfl (hev 16 102 (by kernel_rfl) rfl) (hld_i W hW)
            · exact absurd rfl k1
            · cases ho
              exact run_not W (.tmp 104) rfl (hev 18 104 (by kernel_rfl) rfl)
            · cases ho
          · intro w6 hb6
            have hs6 := hb6.size
            have HR : Hid (RowG encI w6 B g cp d) := Lib.hid (HR.out.below hb6)
            have HBK6 := Lib.hid (HBK5.out.below hb6 hglt5)
            have HB6 := Lib.hid (⟨HB5.out.1.trans (hb6.mono (by omega)), HB5.out.2.below hb6⟩ : _ ∧ _)
            have HST : Hid (lt (gt d k) (gt d i) = false → HeapR B gh (.func (.func gc) #[] FR) lt (some g) w.heap.size (cutLast dz) w6) := Lib.hid fun hl => HF.out _ ((HB5r.out.trans (hb6.mono hs5))) fun j j0 hj hp => HO.out.neg _ _ _ (HS.out j j0 hj hp) hl
            have HNX : Hid (lt (gt d k) (gt d i) = true → Down lt (sw d i k) k) := Lib.hid fun hl => HU.out.1.step HO.out (by omega) (by omega) hk0 HKP.out hl HS.out
            simp only [putP, Exit.then, Act.put, List.setIfInBounds_toArray, List.set_cons_zero, List.set_cons_succ]
            clear hl0 hl1 hld_i hld_k Hask hb6
            cases hbc : lt (gt d k) (gt d i)
            · have HX := Lib.hid (HST.out hbc)
              clear hbc
              go_wp2
              go_ret2
              exact ⟨rfl, HX.out, HB4.out.trans HB6.out.1, HB6.out.2⟩
            · have HX := Lib.hid (HNX.out hbc)
              clear hbc
              have hl0 := fun W (hW : Only g w6 W) => load_l W (((hW.blk HBK6.out hgne).cell 0).trans rfl : W.cell? ⟨gh, 0, none⟩ = some (.slice (some ⟨g, 0, none⟩) m cp))
              go_wp2_with fail
              refine wp_exch (by kernel_rfl) (by kernel_rfl) encI okI _ g _ _ (i) (k) (by omega) (by omega) HR.out
                (fun q_ => (#[.pointer (some ⟨gh, 0, none⟩), .pointer (some ⟨gh, 0, none⟩), .pointer (some ⟨gh, 0, none⟩), .slice (some ⟨g, 0, none⟩) m cp, .int .i64 ((i : Int)), .pointer (some ⟨gh, 0, none⟩), .pointer (some ⟨gh, 0, none⟩), .pointer (some ⟨gh, 0, none⟩), .slice (some ⟨g, 0, none⟩) m cp, .int .i64 ((k : Int)), .pointer (some ⟨gh, 0, none⟩), .pointer (some ⟨gh, 0, none⟩), .pointer (some ⟨gh, 0, none⟩), .slice (some ⟨g, 0, none⟩) m cp, .int .i64 ((k : Int)), .pointer (some ⟨g, (k) * encI.sz, none⟩), encI.vf (gt d (k)), .pointer (some ⟨gh, 0, none⟩), .pointer (some ⟨gh, 0, none⟩), .pointer (some ⟨gh, 0, none⟩), .slice (some ⟨g, 0, none⟩) m cp, .int .i64 ((i : Int)), .pointer (some ⟨g, (i) * encI.sz, none⟩), encI.vf (gt d (i)), .pointer (some ⟨g, (i) * encI.sz, none⟩), undef, .pointer (some ⟨g, (k) * encI.sz, none⟩), undef] : Array Value).getD q_ undef) 16 23 25 27 15 22 24 26 122 129 131 132 123 130 rfl rfl rfl rfl rfl rfl ⟨_, rfl, rfl⟩ ⟨_, rfl, rfl⟩ ⟨_, rfl, rfl, rfl⟩ ⟨_, rfl, rfl, rfl⟩ (by exact ⟨rfl, rfl, rfl, rfl, rfl, rfl⟩) (by kernel_rfl) (by decide) ?_ [(some 107, .pointer (some ⟨gh, 0, none⟩)), (some 108, .pointer (some ⟨gh, 0, none⟩)), (some 109, .pointer (some ⟨gh, 0, none⟩)), (some 110, .slice (some ⟨g, 0, none⟩) m cp), (some 111, .int .i64 ((i : Int))), (some 112, .pointer (some ⟨gh, 0, none⟩)), (some 113, .pointer (some ⟨gh, 0, none⟩)), (some 114, .pointer (some ⟨gh, 0, none⟩)), (some 115, .slice (some ⟨g, 0, none⟩) m cp), (some 116, .int .i64 ((k : Int))), (some 117, .pointer (some ⟨gh, 0, none⟩)), (some 118, .pointer (some ⟨gh, 0, none⟩)), (some 119, .pointer (some ⟨gh, 0, none⟩)), (some 120, .slice (some ⟨g, 0, none⟩) m cp), (some 121, .int .i64 ((k : Int))), (some 122, .pointer (some ⟨g, (k) * encI.sz, none⟩)), (some 123, encI.vf (gt d (k))), (some 124, .pointer (some ⟨gh, 0, none⟩)), (some 125, .pointer (some ⟨gh, 0, none⟩)), (some 126, .pointer (some ⟨gh, 0, none⟩)), (some 127, .slice (some ⟨g, 0, none⟩) m cp), (some 128, .int .i64 ((i : Int))), (some 129, .pointer (some ⟨g, (i) * encI.sz, none⟩)), (some 130, encI.vf (gt d (i))), (some 131, .pointer (some ⟨g, (i) * encI.sz, none⟩)), (none, undef), (some 132, .pointer (some ⟨g, (k) * encI.sz, none⟩)), (none, undef)] rfl ?_ (by exact ⟨by decide, by decide⟩)
              · intro q_ o ho k1 k2 k3 k4 b W hW hev hout
                rcases q_ with _ | _ | _ | _ | _ | _ | _ | _ | _ | _ | _ | _ | _ | _ | _ | _ | _ | _ | _ | _ | _ | _ | _ | _ | _ | _ | _ | _ | q_
                · cases ho
                  exact run_move W (.tmp 0) rfl ((hout 0 (by kernel_rfl)).trans rfl)
                · cases ho
                  exact run_nil W (.tmp 107) rfl (hev 0 107 (by kernel_rfl) (by decide) (by decide) rfl)
                · cases ho
                  exact run_fa W (.tmp 108) rfl (hev 1 108 (by kernel_rfl) (by decide) (by decide) rfl) fa0
                · cases ho
                  exact run_load (.tmp 109) rfl (hev 2 109 (by kernel_rfl) (by decide) (by decide) rfl) (hl0 W hW)
                · cases ho
                  exact run_move W (.tmp 5) rfl ((hout 5 (by kernel_rfl)).trans rfl)
                · cases ho
                  exact run_move W (.tmp 0) rfl ((hout 0 (by kernel_rfl)).trans rfl)
                · cases ho
                  exact run_nil W (.tmp 112) rfl (hev 5 112 (by kernel_rfl) (by decide) (by decide) rfl)
                · cases ho
                  exact run_fa W (.tmp 113) rfl (hev 6 113 (by kernel_rfl) (by decide) (by decide) rfl) fa0
                · cases ho
                  exact run_load (.tmp 114) rfl (hev 7 114 (by kernel_rfl) (by decide) (by decide) rfl) (hl0 W hW)
                · cases ho
                  exact run_move W (.tmp 6) rfl ((hout 6 (by kernel_rfl)).trans rfl)
                · cases ho
                  exact run_move W (.tmp 0) rfl ((hout 0 (by kernel_rfl)).trans rfl)
                · cases ho
                  exact run_nil W (.tmp 117) rfl (hev 10 117 (by kernel_rfl) (by decide) (by decide) rfl)
                · cases ho
                  exact run_fa W (.tmp 118) rfl (hev 11 118 (by kernel_rfl) (by decide) (by decide) rfl) fa0
                · cases ho
                  exact run_load (.tmp 119) rfl (hev 12 119 (by kernel_rfl) (by decide) (by decide) rfl) (hl0 W hW)
                · cases ho
                  exact run_move W (.tmp 6) rfl ((hout 6 (by kernel_rfl)).trans rfl)
                · cases ho
                  exact run_idxv W (.tmp 120) (.tmp 121) rfl (hev 13 120 (by kernel_rfl) (by decide) (by decide) rfl) (hev 14 121 (by kernel_rfl) (by decide) (by decide) rfl) (idx_at W (by omega) (by omega))
                · exact absurd rfl k1
                · cases ho
                  exact run_move W (.tmp 0) rfl ((hout 0 (by kernel_rfl)).trans rfl)
                · cases ho
                  exact run_nil W (.tmp 124) rfl (hev 17 124 (by kernel_rfl) (by decide) (by decide) rfl)
                · cases ho
                  exact run_fa W (.tmp 125) rfl (hev 18 125 (by kernel_rfl) (by decide) (by decide) rfl) fa0
                · cases ho
                  exact run_load (.tmp 126) rfl (hev 19 126 (by kernel_rfl) (by decide) (by decide) rfl) (hl0 W hW)
                · cases ho
                  exact run_move W (.tmp 5) rfl ((hout 5 (by kernel_rfl)).trans rfl)
                · cases ho
                  exact run_idxv W (.tmp 127) (.tmp 128) rfl (hev 20 127 (by kernel_rfl) (by decide) (by decide) rfl) (hev 21 128 (by kernel_rfl) (by decide) (by decide) rfl) (idx_at W (by omega) (by omega))
                · exact absurd rfl k2
                · cases ho
                  exact run_idxv W (.tmp 110) (.tmp 111) rfl (hev 3 110 (by kernel_rfl) (by decide) (by decide) rfl) (hev 4 111 (by kernel_rfl) (by decide) (by decide) rfl) (idx_at W (by omega) (by omega))
                · exact absurd rfl k3
                · cases ho
                  exact run_idxv W (.tmp 115) (.tmp 116) rfl (hev 8 115 (by kernel_rfl) (by decide) (by decide) rfl) (hev 9 116 (by kernel_rfl) (by decide) (by decide) rfl) (idx_at W (by omega) (by omega))
                · exact absurd rfl k4
                · cases ho
              · intro w7 hrow honly
                have HH7 : Hid (HI w7 B gh (.func (.func gc) #[] FR) (some ⟨g, 0, none⟩) cp (sw d i k)) := Lib.hid ⟨by rw [sw_len, HED.out]; exact honly.blk HBK6.out hgne, hlow, hrow⟩
                have HU7 := Lib.hid (⟨HX.out, (sw_perm (d := d) (p := i) (q := k) (by omega) (by omega)).trans HU.out.2⟩ : _ ∧ _)
                have HB7 := Lib.hid (⟨HB6.out.1.trans (honly.below hgB (by omega)), HB6.out.2.only honly (.inr (.inl rfl))⟩ : _ ∧ _)
                have e1 : (sw d i k).length = d.length := sw_len _ _ _
                have e2 : m ≤ (sw d i k).length := by omega
                have e3 : (sw d i k).length ≤ m := by omega
                simp only [putP, Exit.then, Act.put, List.setIfInBounds_toArray, List.set_cons_zero, List.set_cons_succ]
                clear hl0 e1 hrow honly HST HNX
                generalize sw d i k = d7 at *
                go_wp2
                go_roundw
                case rel => exact ⟨k, d7, by omega, e2, e3, rfl, rfl, HH7, HU7, HB7⟩
                case measure => simp [intOf]; omega
      · have HF2 := Lib.hid (HF.out wr (Below.refl _ _) fun j j0 hj hp => by omega)
        go_wp2
        go_ret2
        exact ⟨rfl, HF2.out, HB4.out.trans HB.out.1, HB.out.2⟩
end Go.Proofs.Ytophfgijfmdbcaa.Hp
