/- Contracts of the reference's cursor (chapter 1). -/
import Derived.Test.YtmbnbeihgggkcaaCurB
namespace Go.Proofs.Ytmbnbeihgggkcaa
open Go.RowKit

set_option maxRecDepth 100000 in
set_option maxHeartbeats 400000 in
theorem rU_calls (w : World) {g B k e : Nat} {l : List UInt8} (h : Cur 49 w g B l k e) (hl : l.length ≤ 1000000000000000) :
    Calls Try.prog 27 #[.pointer (some ⟨g, 0, none⟩)] w (CurRet 49 w g B l (.int .u64 ((curU l k e).1 : Nat)) (curU l k e).2.1 (curU l k e).2.2) := by
  unfold curU
  by_cases he : e = 0
  · subst he
    rw [if_neg (by omega)]
    have hf := readU_fits l k h.choose_spec.choose_spec.2.2.2.2
    obtain ⟨A, c, hb, hc, hm, ⟨hby, hBg⟩, hk⟩ := h
    obtain ⟨c0, c1, c2⟩ := cells3 hb
    have f1 := hb.frozen 1
    have f2 := hb.frozen 2
    go_enter Try.func27, Try.ntmps27
    go_wp2_with fail
    go_region_held3 (fun w' => w'.cell? ⟨g, 0, none⟩ = some (.slice A l.length c) ∧ w'.cell? ⟨g, 1, none⟩ = some (.int .i64 (k : Int))) (go_keep) ((go_at_call 21; refine (v_calls _ hby.drew k (by omega)).mono ?_; rintro en w1 ⟨rfl, rfl⟩))
    generalize readU l (k : Int) = r at *
    obtain ⟨x, j, e⟩ := r
    simp only at hf
    have hg := hb.lt
    go_wp2
    go_ret
    refine ⟨rfl, ⟨A, c, ?_, hc, hm, ⟨hby.only (((Only.refl g w).drew.setCell (.inl rfl) _).setCell (.inl rfl) _) hBg (by omega), hBg⟩, hf⟩, ((Only.refl g w).drew.setCell (.inl rfl) _).setCell (.inl rfl) _⟩
    rw [Int.natCast_add]
    exact (hb.drew.set_ 1 _).set_ 2 _
  · rw [if_pos he]
    have h' := h
    obtain ⟨A, c, hb, -⟩ := h
    obtain ⟨c0, c1, c2⟩ := cells3 hb
    have q : ((e : Int) != 0) = true := net (by omega)
    clear he hb
    go_enter Try.func27, Try.ntmps27
    go_wp2
    go_ret
    exact ⟨rfl, h', Only.refl g _⟩

theorem rI_calls (w : World) {g B k e : Nat} {l : List UInt8} (h : Cur 49 w g B l k e) (hl : l.length ≤ 1000000000000000) :
    Calls Try.prog 29 #[.pointer (some ⟨g, 0, none⟩)] w (CurRet 49 w g B l (.int .i64 (zagI (curU l k e).1)) (curU l k e).2.1 (curU l k e).2.2) := by
  have Hm := Lib.hid (curU_max l k e)
  go_enter Try.func29, Try.ntmps29
  go_wp2_with fail
  refine (rU_calls w h hl).mono ?_
  rintro en w1 ⟨rfl, h1, ho⟩
  go_wp2_with fail
  refine (zagR_calls _ w1 Hm.out).mono ?_
  rintro en w' ⟨rfl, rfl⟩
  go_wp2
  go_ret
  exact ⟨rfl, h1, ho⟩

theorem curU_err {l : List UInt8} {k e : Nat} (h : e ≠ 0) : curU l k e = (0, k, e) := by unfold curU; rw [if_pos h]

set_option maxRecDepth 100000 in
set_option maxHeartbeats 400000 in
theorem rNum_calls (w : World) {g B k e : Nat} {l : List UInt8} (h : Cur 49 w g B l k e) (hl : l.length ≤ 1000000000000000) (most : Int) (hm : most ≤ 9223372036854775807) :
    Calls Try.prog 31 #[.pointer (some ⟨g, 0, none⟩), .int .i64 most] w (CurRet 49 w g B l (.int .i64 ((curNum l k e most).1 : Nat)) (curNum l k e most).2.1 (curNum l k e most).2.2) := by
  have hmax := curU_max l k e
  have Hu := Lib.hid (rU_calls w h hl)
  have hk : k ≤ l.length := h.choose_spec.choose_spec.2.2.2.2
  obtain ⟨A, c, hb, hc, hm', ⟨hby, hBg⟩, -⟩ := h
  obtain ⟨c0, c1, c2⟩ := cells3 hb
  have He := Lib.hid (fun h => curU_err (l := l) (k := k) (e := e) h)
  generalize hr : curU l k e = r at *
  obtain ⟨u, k1, e1⟩ := r
  simp only at hmax
  have Hr := Lib.hid hr
  clear hr
  go_enter Try.func31, Try.ntmps31
  go_wp2_with fail
  refine Hu.out.mono ?_
  rintro en w1 ⟨rfl, h1, ho⟩
  have h1' := h1
  obtain ⟨A1, cc1, hb1, hc1, hm1, ⟨hby1, hBg1⟩, hk1⟩ := h1
  obtain ⟨d0, d1, d2⟩ := cells3 hb1
  have f1 := hb1.frozen 1
  have f2 := hb1.frozen 2
  have hg1 := hb1.lt
  clear c0 c1 c2
  by_cases he1 : e1 = 0
  · subst he1
    have he : e = 0 := by
      by_cases he : e = 0
      · exact he
      · have := He.out he; injection this with _ h2; injection h2 with _ h3; exact h3.symm ▸ rfl
    subst he
    by_cases hbad : most < 0 ∨ most < (u : Int)
    · have Hfin := Lib.hid (curNum_2 Hr.out hbad)
      have hw : 0 ≤ most → IntKind.u64.wrap most = most := fun h => u64_in h (by omega)
      by_cases hneg : most < 0
      · clear hbad hw
        go_wp2
        go_ret
        rw [Hfin.out]
        exact ⟨rfl, ⟨A1, cc1, (hb1.set_ 1 _).set_ 2 _, hc1, hm1, ⟨hby1.only (((Only.refl g w1).setCell (.inl rfl) _).setCell (.inl rfl) _) hBg1 (by omega), hBg1⟩, hk⟩, ho.trans (((Only.refl g w1).setCell (.inl rfl) _).setCell (.inl rfl) _)⟩
      · have hgt : most < (u : Int) := by omega
        have hw2 := hw (by omega)
        clear hbad hw
        go_wp2
        go_ret
        rw [Hfin.out]
        exact ⟨rfl, ⟨A1, cc1, (hb1.set_ 1 _).set_ 2 _, hc1, hm1, ⟨hby1.only (((Only.refl g w1).setCell (.inl rfl) _).setCell (.inl rfl) _) hBg1 (by omega), hBg1⟩, hk⟩, ho.trans (((Only.refl g w1).setCell (.inl rfl) _).setCell (.inl rfl) _)⟩
    · have Hfin := Lib.hid (curNum_3 Hr.out hbad)
      have hu2 : (u : Int) ≤ 9223372036854775807 := by omega
      have hneg : ¬ most < 0 := by omega
      have hgt : ¬ most < (u : Int) := by omega
      have hw : IntKind.u64.wrap most = most := u64_in (by omega) (by omega)
      clear hbad
      go_wp2
      go_ret
      rw [Hfin.out]
      exact ⟨rfl, h1', ho⟩
  · have Hfin : Hid (curNum l k e most = (0, k1, e1)) := by
      by_cases he : e = 0
      · subst he; exact curNum_1 Hr.out he1
      · have := He.out he
        injection this with _ h2; injection h2 with h3 h4
        subst h3 h4; exact curNum_err he
    have q2 : ((e1 : Int) != 0) = true := net (by omega)
    clear he1
    go_wp2
    go_ret
    rw [Hfin.out]
    exact ⟨rfl, h1', ho⟩

theorem curBytes_err {l : List UInt8} {k e : Nat} {n : Int} (h : e ≠ 0) : curBytes l k e n = ([], k, e) := by unfold curBytes; rw [if_pos h]
theorem curBytes_bad {l : List UInt8} {k : Nat} {n : Int} (h : n < 0 ∨ (l.length : Int) - (k : Int) < n) : curBytes l k 0 n = ([], k, 3) := by unfold curBytes; rw [if_neg (by omega), if_pos h]

theorem slice_run (P : Program) (w : World) (t : TypeId) (ht : P.underlying t = some (.slice (P.elem t))) (hs : ∀ w, (sizeOf (P.elem t)).run P w = .ok 1 w) (A : Option Addr) (n c k m : Nat) (h : k + m ≤ c) :
    (Instr.slice t (.slice A n c) (some (.int .i64 (k : Int))) (some (.int .i64 ((k : Int) + (m : Int)))) none).run P w = .ok (.slice (if c = k then A else A.map (·.add k)) m (c - k)) w := by
  have e : ((k : Int) + (m : Int)).toNat = k + m := by omega
  rw [run_slice_lh w t A n c ht .i64 .i64 _ _ (by omega) (by omega) (by omega), hs]
  simp [sliced, Result.andThen, e]

set_option maxRecDepth 100000 in
set_option maxHeartbeats 400000 in
theorem rBytes_calls (w : World) {g B k e : Nat} {l : List UInt8} (h : Cur 49 w g B l k e) (hl : l.length ≤ 140737488351232) (n : Int) (hn : n ≤ 9223372036854775807) :
    Calls Try.prog 33 #[.pointer (some ⟨g, 0, none⟩), .int .i64 n] w (CurRetB 49 w g B l (curBytes l k e n).1 (curBytes l k e n).2.1 (curBytes l k e n).2.2) := by
  have h' := h
  obtain ⟨A, c, hb, hc, hm', ⟨hby, hBg⟩, hk⟩ := h
  obtain ⟨c0, c1, c2⟩ := cells3 hb
  have f1 := hb.frozen 1
  have f2 := hb.frozen 2
  have hg := hb.lt
  by_cases he : e = 0
  · subst he
    by_cases hbad : n < 0 ∨ (l.length : Int) - (k : Int) < n
    · rw [curBytes_bad hbad]
      have hnd : n < 0 ∨ (¬ n < 0 ∧ (l.length : Int) - (k : Int) < n) := by omega
      have i9 : IntKind.i64.wrap ((l.length : Int) - (k : Int)) = (l.length : Int) - (k : Int) := by rw [IntKind.wrap_i64]; omega
      clear hbad
      rcases hnd with hneg | ⟨hneg, hgt⟩
      all_goals
        go_enter Try.func33, Try.ntmps33
        go_wp2_with fail
        go_quiet (fail)
        go_wp2
        go_ret
        exact ⟨none, 0, rfl, Nat.le_refl _, Nat.zero_le _, World.ownsRow_nil _ _ _ _, ⟨A, c, (hb.drewN _).set_ 2 _, hc, hm', ⟨hby.only (((Only.refl g w).drewN _).setCell (.inl rfl) _) hBg (by omega), hBg⟩, hk⟩, ((Only.refl g w).drewN _).setCell (.inl rfl) _⟩
    · obtain ⟨m, rfl⟩ := Int.eq_ofNat_of_zero_le (show 0 ≤ n by omega)
      rw [curBytes_ok (by omega) hk]
      have hneg : ¬ (m : Int) < 0 := by omega
      have hgt : ¬ (l.length : Int) - (k : Int) < (m : Int) := by omega
      have hgd : decide ((m : Int) < 0) = false := dcf hneg
      have hmk : m ≤ l.length - k := by omega
      have hlen : ((l.drop k).take m).length = m := by simp; omega
      have i1 : (k : Int) + (m : Int) ≤ (c : Int) := by omega
      have i2 : (0 : Int) ≤ (k : Int) := by omega
      have i3 : (k : Int) ≤ (k : Int) + (m : Int) := by omega
      have i6 : (0 : Int) ≤ (k : Int) + (m : Int) := by omega
      have i7 : ((k : Int) + (m : Int)).toNat = k + m := by omega
      have i5 : IntKind.i64.wrap ((k : Int) + (m : Int)) = (k : Int) + (m : Int) := by rw [IntKind.wrap_i64]; omega
      have hby3 := (hby.cutted hk hc).taken hmk
      generalize hbs : (l.drop k).take m = bs at *
      clear hbad hbs
      clear h'
      have hl2 := hby3.1
      have hT := fun (wx : World) (A3 : Option Addr) (c3 : Nat) (hx : Bytes wx B A3 m bs) (hs : B ≤ wx.heap.size) => twin_calls wx (c := c3) hx hs (by omega)
      have HT := Lib.hid hT
      clear hT
      by_cases hck : c = k
      · subst hck
        rw [if_pos rfl] at hby3
        go_enter Try.func33, Try.ntmps33
        go_wp2_with fail
        go_quiet (fail)
        go_wp2_with fail
        go_region_held3 (fun w' => w'.cell? ⟨g, 0, none⟩ = some (.slice A l.length c) ∧ w'.cell? ⟨g, 1, none⟩ = some (.int .i64 (c : Int))) (go_keep) ((go_at_call 19; refine (HT.out _ _ _ (hby3.drewN _) (Nat.le_trans hBg (Nat.le_of_lt hg))).mono ?_; rintro en w5 h5; obtain ⟨A5, c5, rfl, hc5, hm5, hb5, hbel5, hown5⟩ := h5.opened; clear h5; have e0 := (hbel5.cell (p := ⟨g, 0, none⟩) hg).trans c0; have e1 := (hbel5.cell (p := ⟨g, 1, none⟩) hg).trans c1))
        have hb5' := (hb.drewN (nq + 1)).below hbel5 hg
        have f1' := hb5'.frozen 1
        have hs5 := hbel5.size
        have hown6 := Lib.hid (ownsRow_setCell_below hown5 (a := ⟨g, 1, none⟩) hg (.int .i64 ((c : Int) + (m : Int))))
        have ho5 : Only g w w5 := ((Only.refl g w).drewN (nq + 1)).trans (Only.of_below hbel5)
        clear hown5 hb5
        go_wp2
        go_ret
        refine ⟨A5, c5, (congrArg (fun x => Ending.returned (.slice A5 x c5)) hlen).symm, hc5, hm5, hown6.out, ⟨A, c, ?_, hc, hm', ⟨hby.only (ho5.setCell (.inl rfl) _) hBg (by omega), hBg⟩, by omega⟩, ho5.setCell (.inl rfl) _⟩
        rw [Int.natCast_add]; exact hb5'.set_ 1 _
      · rw [if_neg hck] at hby3
        go_enter Try.func33, Try.ntmps33
        go_wp2_with fail
        go_quiet (fail)
        go_wp2_with fail
        go_region_held3 (fun w' => w'.cell? ⟨g, 0, none⟩ = some (.slice A l.length c) ∧ w'.cell? ⟨g, 1, none⟩ = some (.int .i64 (k : Int))) (go_keep) ((go_at_call 19; refine (HT.out _ _ _ (hby3.drewN _) (Nat.le_trans hBg (Nat.le_of_lt hg))).mono ?_; rintro en w5 h5; obtain ⟨A5, c5, rfl, hc5, hm5, hb5, hbel5, hown5⟩ := h5.opened; clear h5; have e0 := (hbel5.cell (p := ⟨g, 0, none⟩) hg).trans c0; have e1 := (hbel5.cell (p := ⟨g, 1, none⟩) hg).trans c1))
        have hb5' := (hb.drewN (nq + 1)).below hbel5 hg
        have f1' := hb5'.frozen 1
        have hs5 := hbel5.size
        have hown6 := Lib.hid (ownsRow_setCell_below hown5 (a := ⟨g, 1, none⟩) hg (.int .i64 ((k : Int) + (m : Int))))
        have ho5 : Only g w w5 := ((Only.refl g w).drewN (nq + 1)).trans (Only.of_below hbel5)
        clear hown5 hb5
        go_wp2
        go_ret
        refine ⟨A5, c5, (congrArg (fun x => Ending.returned (.slice A5 x c5)) hlen).symm, hc5, hm5, hown6.out, ⟨A, c, ?_, hc, hm', ⟨hby.only (ho5.setCell (.inl rfl) _) hBg (by omega), hBg⟩, by omega⟩, ho5.setCell (.inl rfl) _⟩
        rw [Int.natCast_add]; exact hb5'.set_ 1 _
  · rw [curBytes_err he]
    have q : ((e : Int) != 0) = true := net (by omega)
    clear he
    go_enter Try.func33, Try.ntmps33
    go_wp2
    go_ret
    exact ⟨none, 0, rfl, Nat.le_refl _, Nat.zero_le _, World.ownsRow_nil _ _ _ _, h', Only.refl g _⟩

set_option maxRecDepth 100000 in
set_option maxHeartbeats 400000 in
theorem rText_calls (w : World) {g B k e : Nat} {l : List UInt8} (h : Cur 49 w g B l k e) (hl : l.length ≤ 140737488351232) (most : Int) (hm : most ≤ 9223372036854775807) :
    Calls Try.prog 35 #[.pointer (some ⟨g, 0, none⟩), .int .i64 most] w (CurRet 49 w g B l (.string ⟨(curText l k e most).1.toArray⟩) (curText l k e most).2.1 (curText l k e most).2.2) := by
  have hmax := curU_max l k e
  have Hu := Lib.hid (rU_calls w h (by omega))
  have hk : k ≤ l.length := h.choose_spec.choose_spec.2.2.2.2
  obtain ⟨A, c, hb, hc, hm', ⟨hby, hBg⟩, -⟩ := h
  obtain ⟨c0, c1, c2⟩ := cells3 hb
  have He := Lib.hid (fun h => curU_err (l := l) (k := k) (e := e) h)
  generalize hr : curU l k e = r at *
  obtain ⟨u, k1, e1⟩ := r
  simp only at hmax
  have Hr := Lib.hid hr
  clear hr
  go_enter Try.func35, Try.ntmps35
  go_wp2_with fail
  refine Hu.out.mono ?_
  rintro en w1 ⟨rfl, h1, ho⟩
  have h1' := h1
  obtain ⟨A1, cc1, hb1, hc1, hm1, ⟨hby1, hBg1⟩, hk1⟩ := h1
  obtain ⟨d0, d1, d2⟩ := cells3 hb1
  have f1 := hb1.frozen 1
  have f2 := hb1.frozen 2
  have hg1 := hb1.lt
  clear c0 c1 c2
  by_cases he1 : e1 = 0
  · subst he1
    have he : e = 0 := by
      by_cases he : e = 0
      · exact he
      · have := He.out he; injection this with _ h2; injection h2 with _ h3; exact h3.symm ▸ rfl
    subst he
    by_cases hbad : most < 0 ∨ most < (u : Int)
    · have Hfin := Lib.hid (curText_2 Hr.out hbad)
      have hw : 0 ≤ most → IntKind.u64.wrap most = most := fun h => u64_in h (by omega)
      by_cases hneg : most < 0
      · clear hbad hw
        go_wp2
        go_ret
        rw [Hfin.out]
        exact ⟨rfl, ⟨A1, cc1, (hb1.set_ 1 _).set_ 2 _, hc1, hm1, ⟨hby1.only (((Only.refl g w1).setCell (.inl rfl) _).setCell (.inl rfl) _) hBg1 (by omega), hBg1⟩, hk⟩, ho.trans (((Only.refl g w1).setCell (.inl rfl) _).setCell (.inl rfl) _)⟩
      · have hgt : most < (u : Int) := by omega
        have hw2 := hw (by omega)
        clear hbad hw
        go_wp2
        go_ret
        rw [Hfin.out]
        exact ⟨rfl, ⟨A1, cc1, (hb1.set_ 1 _).set_ 2 _, hc1, hm1, ⟨hby1.only (((Only.refl g w1).setCell (.inl rfl) _).setCell (.inl rfl) _) hBg1 (by omega), hBg1⟩, hk⟩, ho.trans (((Only.refl g w1).setCell (.inl rfl) _).setCell (.inl rfl) _)⟩
    · have hu2 : (u : Int) ≤ 9223372036854775807 := by omega
      have hneg : ¬ most < 0 := by omega
      have hgt : ¬ most < (u : Int) := by omega
      have hw : IntKind.u64.wrap most = most := u64_in (by omega) (by omega)
      have Hbad := Lib.hid hbad; clear hbad
      have hw2 : IntKind.u64.wrap ((l.length : Int) - (k1 : Int)) = (l.length : Int) - (k1 : Int) := u64_in (by omega) (by omega)
      have hw3 : IntKind.i64.wrap ((l.length : Int) - (k1 : Int)) = (l.length : Int) - (k1 : Int) := by rw [IntKind.wrap_i64]; omega
      by_cases hlong : l.length - k1 < u
      · have Hfin := Lib.hid (curText_3 Hr.out Hbad.out hlong)
        have hlo : (l.length : Int) - (k1 : Int) < (u : Int) := by omega
        go_wp2_with fail
        go_region_held3 (fun w' => w'.cell? ⟨g, 0, none⟩ = some (.slice A1 l.length cc1) ∧ w'.cell? ⟨g, 1, none⟩ = some (.int .i64 (k1 : Int))) (go_keep) (fail)
        go_wp2
        go_ret
        rw [Hfin.out]
        exact ⟨rfl, ⟨A1, cc1, (hb1.drew.set_ 1 _).set_ 2 _, hc1, hm1, ⟨hby1.only (((Only.refl g w1).drew.setCell (.inl rfl) _).setCell (.inl rfl) _) hBg1 (by omega), hBg1⟩, hk⟩, ho.trans (((Only.refl g w1).drew.setCell (.inl rfl) _).setCell (.inl rfl) _)⟩
      · have Hfin := Lib.hid (curText_4 Hr.out Hbad.out hlong)
        have hlo : ¬ (l.length : Int) - (k1 : Int) < (u : Int) := by omega
        have hx : Cur 49 w1.drew g B l k1 0 := ⟨A1, cc1, hb1.drew, hc1, hm1, ⟨hby1.drew, hBg1⟩, hk1⟩
        have hbb := rBytes_calls w1.drew hx hl (u : Int) hu2
        rw [curBytes_ok hlong hk1] at hbb
        have Hbb := Lib.hid hbb
        clear hbb hlong
        go_wp2_with fail
        go_region_held3 (fun w' => w'.cell? ⟨g, 0, none⟩ = some (.slice A1 l.length cc1) ∧ w'.cell? ⟨g, 1, none⟩ = some (.int .i64 (k1 : Int))) (go_keep) (fail)
        go_wp2_with fail
        refine Hbb.out.mono ?_
        rintro en w2 ⟨A2, c2, rfl, hc2, hm2, hown2, h2, ho2⟩
        have hby2 := own_bytes hown2
        have kc := hby2.conv Try.prog c2 23 5 9 Try.underlying23 Try.underlying5 Try.underlying9
        generalize (l.drop k1).take u = bs at *
        go_wp2
        go_ret
        rw [Hfin.out]
        exact ⟨rfl, h2, ho.trans ((Only.refl g w1).drew.trans ho2)⟩
  · have Hfin : Hid (curText l k e most = ([], k1, e1)) := by
      by_cases he : e = 0
      · subst he; exact curText_1 Hr.out he1
      · have := He.out he
        injection this with _ h2; injection h2 with h3 h4
        subst h3 h4; exact curText_err he
    have q2 : ((e1 : Int) != 0) = true := net (by omega)
    clear he1
    go_wp2
    go_ret
    rw [Hfin.out]
    exact ⟨rfl, h1', ho⟩

theorem curEnd_0 {l : List UInt8} {k e : Nat} (h : e ≠ 0) : curEnd l k e = e := by unfold curEnd; rw [if_pos h]
theorem curEnd_1 {l : List UInt8} {k : Nat} (h : k < l.length) : curEnd l k 0 = 5 := by unfold curEnd; rw [if_neg (by omega), if_pos h]
theorem curEnd_2 {l : List UInt8} {k : Nat} (h : ¬ k < l.length) : curEnd l k 0 = 0 := by unfold curEnd; rw [if_neg (by omega), if_neg h]

set_option maxRecDepth 100000 in
theorem rEnd_calls (w : World) {g B k e : Nat} {l : List UInt8} (h : Cur 49 w g B l k e) :
    Calls Try.prog 36 #[.pointer (some ⟨g, 0, none⟩)] w fun en w' => en = .returned (.int .i64 (curEnd l k e : Nat)) ∧ ∃ n, w' = w.drewN n := by
  obtain ⟨A, c, hb, -⟩ := h
  obtain ⟨c0, c1, c2⟩ := cells3 hb
  clear hb
  by_cases he : e = 0
  · subst he
    by_cases hk : k < l.length
    · rw [curEnd_1 hk]
      have hkd : (k : Int) < (l.length : Int) := by omega
      go_enter Try.func36, Try.ntmps36
      go_wp2_with fail
      go_quiet (fail)
      go_wp2
      go_ret
      exact ⟨rfl, _, rfl⟩
    · rw [curEnd_2 hk]
      have hkd : ¬ (k : Int) < (l.length : Int) := by omega
      go_enter Try.func36, Try.ntmps36
      go_wp2_with fail
      go_quiet (fail)
      go_wp2
      go_ret
      exact ⟨rfl, _, rfl⟩
  · rw [curEnd_0 he]
    have q : ((e : Int) == 0) = false := eqf (by omega)
    clear he
    go_enter Try.func36, Try.ntmps36
    go_wp2_with fail
    go_quiet (fail)
    go_wp2
    go_ret
    exact ⟨rfl, _, rfl⟩
end Go.Proofs.Ytmbnbeihgggkcaa
