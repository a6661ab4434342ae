/- Contracts of the cursor of nums (chapter 1): Num, Bytes, Text. -/
import Derived.Test.YtmbnbeihgggkcaaCur
namespace Go.Proofs.Ytmbnbeihgggkcaa
open Go.RowKit

def curNum (l : List UInt8) (k e : Nat) (most : Int) : Nat × Nat × Nat :=
  if e ≠ 0 then (0, k, e) else
  if (curU l k e).2.2 ≠ 0 then (0, (curU l k e).2.1, (curU l k e).2.2)
  else if most < 0 ∨ most < ((curU l k e).1 : Int) then (0, k, 2) else curU l k e

theorem curNum_err {l : List UInt8} {k e : Nat} {most : Int} (h : e ≠ 0) : curNum l k e most = (0, k, e) := by unfold curNum; rw [if_pos h]
theorem curNum_1 {l : List UInt8} {k u k1 e1 : Nat} {most : Int} (hr : curU l k 0 = (u, k1, e1)) (h : e1 ≠ 0) : curNum l k 0 most = (0, k1, e1) := by
  unfold curNum; rw [if_neg (by omega), hr, if_pos h]
theorem curNum_2 {l : List UInt8} {k u k1 : Nat} {most : Int} (hr : curU l k 0 = (u, k1, 0)) (h : most < 0 ∨ most < (u : Int)) : curNum l k 0 most = (0, k, 2) := by
  unfold curNum; rw [if_neg (by omega), hr, if_neg (by simp), if_pos h]
theorem curNum_3 {l : List UInt8} {k u k1 : Nat} {most : Int} (hr : curU l k 0 = (u, k1, 0)) (h : ¬ (most < 0 ∨ most < (u : Int))) : curNum l k 0 most = (u, k1, 0) := by
  unfold curNum; rw [if_neg (by omega), hr, if_neg (by simp), if_neg h]

theorem u64_in {x : Int} (h0 : 0 ≤ x) (h1 : x ≤ 18446744073709551615) : IntKind.u64.wrap x = x := by rw [IntKind.wrap_u64]; omega

theorem cells3 {w : World} {g : Nat} {t : TypeId} {a b c : Value} (h : Blk w g t #[a, b, c]) :
    w.cell? ⟨g, 0, none⟩ = some a ∧ w.cell? ⟨g, 1, none⟩ = some b ∧ w.cell? ⟨g, 2, none⟩ = some c :=
  ⟨h.cell 0, h.cell 1, h.cell 2⟩

set_option maxRecDepth 100000 in
set_option maxHeartbeats 400000 in
theorem curNum_calls (w : World) {g B k e : Nat} {l : List UInt8} (h : Cur 59 w g B l k e) (hl : l.length ≤ 1000000000000000) (most : Int) (hm : most ≤ 9223372036854775807) :
    Calls Try.prog 30 #[.pointer (some ⟨g, 0, none⟩), .int .i64 most] w (CurRet 59 w g B l (.int .i64 ((curNum l k e most).1 : Nat)) (curNum l k e most).2.1 (curNum l k e most).2.2) := by
  have hov := over_calls w h
  by_cases he : e = 0
  · subst he
    have Hov := Lib.hid hov; clear hov
    have hmax := curU_max l k 0
    have Hu := Lib.hid (curU_calls w h hl)
    obtain ⟨A, c, hb, hc, hm', ⟨hby, hBg⟩, hk⟩ := h
    obtain ⟨c0, c1, c2⟩ := cells3 hb
    generalize hr : curU l k 0 = r at *
    obtain ⟨u, k1, e1⟩ := r
    simp only at hmax
    have Hr := Lib.hid hr
    clear hr
    go_enter Try.func30, Try.ntmps30
    go_wp2_with fail
    refine Hov.out.mono ?_
    rintro en w' ⟨rfl, rfl⟩
    go_wp2_with fail
    refine Hu.out.mono ?_
    rintro en w1 ⟨rfl, h1, ho⟩
    have h1' := h1
    obtain ⟨A1, cc1, hb1, -⟩ := h1
    obtain ⟨d0, d1, d2⟩ := cells3 hb1
    clear c0 c1 c2 hb1
    by_cases he1 : e1 = 0
    · subst he1
      by_cases hbad : most < 0 ∨ most < (u : Int)
      · have Hfin := Lib.hid (curNum_2 Hr.out hbad)
        have Hf := Lib.hid (fail_calls w1 h1' k 2 hk)
        by_cases hneg : most < 0
        · clear hbad
          go_wp2_with fail
          refine Hf.out.mono ?_
          rintro en w2 ⟨rfl, h2, ho2⟩
          have h2' := h2
          obtain ⟨A2, cc2, hb2, -⟩ := h2
          obtain ⟨f0, f1, f2⟩ := cells3 hb2
          clear hb2
          go_wp2
          go_ret
          rw [Hfin.out]
          exact ⟨rfl, h2', ho.trans ho2⟩
        · have hgt : most < (u : Int) := by omega
          have hw : IntKind.u64.wrap most = most := u64_in (by omega) (by omega)
          clear hbad
          go_wp2_with fail
          refine Hf.out.mono ?_
          rintro en w2 ⟨rfl, h2, ho2⟩
          have h2' := h2
          obtain ⟨A2, cc2, hb2, -⟩ := h2
          obtain ⟨f0, f1, f2⟩ := cells3 hb2
          clear hb2
          go_wp2
          go_ret
          rw [Hfin.out]
          exact ⟨rfl, h2', ho.trans ho2⟩
      · have Hfin := Lib.hid (curNum_3 Hr.out hbad)
        have hu2 : (u : Int) ≤ 9223372036854775807 := by omega
        have hneg : ¬ most < 0 := by omega
        have hgt : ¬ most < (u : Int) := by omega
        have hw : IntKind.u64.wrap most = most := u64_in (by omega) (by omega)
        clear hbad
        go_wp2
        go_ret
        rw [Hfin.out]
        exact ⟨rfl, h1', ho⟩
    · have Hfin := Lib.hid (curNum_1 (most := most) Hr.out he1)
      have q1 : ((e1 : Int) == 0) = false := eqf (by omega)
      have q2 : ((e1 : Int) != 0) = true := net (by omega)
      clear he1
      go_wp2
      go_ret
      rw [Hfin.out]
      exact ⟨rfl, h1', ho⟩
  · rw [curNum_err he]
    rw [decide_eq_true he] at hov
    have Hov := Lib.hid hov; clear hov he
    go_enter Try.func30, Try.ntmps30
    go_wp2_with fail
    refine Hov.out.mono ?_
    rintro en w' ⟨rfl, rfl⟩
    go_wp2
    go_ret
    exact ⟨rfl, h, Only.refl g _⟩

theorem num_nil (w : World) (most : Int) :
    Calls Try.prog 30 #[.pointer none, .int .i64 most] w fun en w' => en = .returned (.int .i64 0) ∧ w = w' := by
  go_enter Try.func30, Try.ntmps30
  go_wp2_with fail
  refine (over_nil w).mono ?_
  rintro en w' ⟨rfl, rfl⟩
  go_wp2
  go_ret
  exact ⟨rfl, rfl⟩

def curBytes (l : List UInt8) (k e : Nat) (n : Int) : List UInt8 × Nat × Nat :=
  if e ≠ 0 then ([], k, e) else if n < 0 ∨ (l.length : Int) - (k : Int) < n then ([], k, 3) else ((l.drop k).take n.toNat, k + n.toNat, 0)

def CurRetB (t : TypeId) (w : World) (g B : Nat) (l : List UInt8) (bs : List UInt8) (k e : Nat) (en : Ending) (w' : World) : Prop :=
  ∃ A c, en = .returned (.slice A bs.length c) ∧ bs.length ≤ c ∧ c ≤ maxLen ∧ w'.ownsRow w.heap.size 5 1 (.slice A bs.length c) bs.length (bs.map byteV) ∧ Cur t w' g B l k e ∧ Only g w w'

theorem bytes_nil_ {w : World} {B : Nat} {A : Option Addr} : Bytes w B A 0 [] := ⟨rfl, Reads.none_⟩

set_option maxRecDepth 100000 in
set_option maxHeartbeats 400000 in
theorem curBytes_calls (w : World) {g B k e : Nat} {l : List UInt8} (h : Cur 59 w g B l k e) (hl : l.length ≤ 140737488351232) (n : Int) (hn : n ≤ 9223372036854775807) :
    Calls Try.prog 32 #[.pointer (some ⟨g, 0, none⟩), .int .i64 n] w (CurRetB 59 w g B l (curBytes l k e n).1 (curBytes l k e n).2.1 (curBytes l k e n).2.2) := by
  have hov := over_calls w h
  unfold curBytes
  by_cases he : e = 0
  · rw [if_neg (by omega)]
    subst he
    have Hov := Lib.hid hov; clear hov
    have h' := h
    obtain ⟨A, c, hb, hc, hm', ⟨hby, hBg⟩, hk⟩ := h
    obtain ⟨c0, c1, c2⟩ := cells3 hb
    have f1 := hb.frozen 1
    have hg := hb.lt
    by_cases hneg : n < 0
    · rw [if_pos (.inl hneg)]
      have Hf := Lib.hid (fun wx (hx : Cur 59 wx g B l k 0) => fail_calls wx hx k 3 hk)
      go_enter Try.func32, Try.ntmps32
      go_wp2_with fail
      refine Hov.out.mono ?_
      rintro en w' ⟨rfl, rfl⟩
      go_wp2_with fail
      go_quiet (fail)
      go_wp2_with fail
      refine (Hf.out _ ⟨A, c, hb.drewN _, hc, hm', ⟨hby.drewN _, hBg⟩, hk⟩).mono ?_
      rintro en w2 ⟨rfl, h2, ho2⟩
      go_wp2
      go_ret
      exact ⟨none, 0, rfl, Nat.le_refl _, Nat.zero_le _, World.ownsRow_nil _ _ _ _, h2, ((Only.refl g w).drewN _).trans ho2⟩
    · by_cases hgt : (l.length : Int) - (k : Int) < n
      · rw [if_pos (.inr hgt)]
        have Hf := Lib.hid (fun wx (hx : Cur 59 wx g B l k 0) => fail_calls wx hx k 3 hk)
        have hgd : decide (n < 0) = false := dcf hneg
        go_enter Try.func32, Try.ntmps32
        go_wp2_with fail
        refine Hov.out.mono ?_
        rintro en w' ⟨rfl, rfl⟩
        go_wp2_with fail
        go_quiet (fail)
        go_wp2_with fail
        refine (Hf.out _ ⟨A, c, hb.drewN _, hc, hm', ⟨hby.drewN _, hBg⟩, hk⟩).mono ?_
        rintro en w2 ⟨rfl, h2, ho2⟩
        go_wp2
        go_ret
        exact ⟨none, 0, rfl, Nat.le_refl _, Nat.zero_le _, World.ownsRow_nil _ _ _ _, h2, ((Only.refl g w).drewN _).trans ho2⟩
      · rw [if_neg (by omega)]
        obtain ⟨m, rfl⟩ := Int.eq_ofNat_of_zero_le (show 0 ≤ n by omega)
        rw [Int.toNat_natCast]
        have hgd : decide ((m : Int) < 0) = false := dcf hneg
        have hmk : m ≤ l.length - k := by omega
        clear hneg hgt
        go_enter Try.func32, Try.ntmps32
        go_wp2_with fail
        refine Hov.out.mono ?_
        rintro en w' ⟨rfl, rfl⟩
        go_wp2_with fail
        go_quiet (fail)
        go_wp2_with fail
        have hb2 := (hb.drewN nq).set_ 1 (.int .i64 ((k : Int) + (m : Int)))
        have ho2 : Only g w ((w.drewN nq).setCell ⟨g, 1, none⟩ (.int .i64 ((k : Int) + (m : Int)))) := ((Only.refl g w).drewN nq).setCell (.inl rfl) _
        generalize (w.drewN nq).setCell ⟨g, 1, none⟩ (.int .i64 ((k : Int) + (m : Int))) = w2 at *
        have hby2 := hby.only ho2 hBg (by omega)
        obtain ⟨d0, d1, d2⟩ := cells3 (a := .slice A l.length c) (b := .int .i64 ((k : Int) + (m : Int))) (c := .int .i64 0) hb2
        have hs := ho2.size
        have i1 : (k : Int) + (m : Int) ≤ (c : Int) := by omega
        have i2 : (0 : Int) ≤ (k : Int) := by omega
        have i3 : (k : Int) ≤ (k : Int) + (m : Int) := by omega
        have i4 : IntKind.i64.wrap ((k : Int) + (m : Int) - (m : Int)) = (k : Int) := by
          rw [IntKind.wrap_i64]; omega
        have hlen : ((l.drop k).take m).length = m := by simp; omega
        have i5 : IntKind.i64.wrap (k : Int) = (k : Int) := by rw [IntKind.wrap_i64]; omega
        have i6 : (0 : Int) ≤ (k : Int) + (m : Int) := by omega
        have i7 : ((k : Int) + (m : Int)).toNat = k + m := by omega
        clear c0 c1 c2 f1 h' hb
        have hd := (Below.refl w2.heap.size w2).drew.alloc (Nat.le_refl _) (.cells #[] 5)
        have hg2 : g < w2.heap.size := by omega
        by_cases hck : c = k
        · have hm0 : m = 0 := by omega
          subst hm0
          subst hck
          go_region_held3 (fun w' => w'.cell? ⟨g, 0, none⟩ = some (.slice A l.length c) ∧ w'.cell? ⟨g, 1, none⟩ = some (.int .i64 ((c : Int) + ((0 : Nat) : Int)))) (go_keep) ((refine step_append_sl _ rfl (.tmp 37) (.tmp 52) _ rfl w2.heap.size 5 _ 1 1 Try.underlying23 Try.infoU8 rfl (by omega) _ _ _ rfl (World.ownsRow_made w2.drew #[] 0 (Nat.le_refl _) (Nat.zero_le _) rfl) 0 _ 0 _ [] rfl Reads.none_ (by simp) (by unfold maxLen; omega) (by omega) (by simp) ?_; intro A5 c5 w5 hc5 hm5 hr5 hbel5 hown5 hgr5 hat5; have e0 : w5.cell? ⟨g, 0, none⟩ = some (.slice A l.length c) := ((hd.trans hbel5).cell (p := ⟨g, 0, none⟩) hg2).trans d0; have e1 : w5.cell? ⟨g, 1, none⟩ = some (.int .i64 ((c : Int) + ((0 : Nat) : Int))) := ((hd.trans hbel5).cell (p := ⟨g, 1, none⟩) hg2).trans d1))
          go_wp2
          go_ret
          have b5 := hd.trans hbel5
          have hby5 := And.intro (hby2.to (b5.mono (by omega)) (Nat.le_refl _)) hBg
          have hnil : (l.drop c).take 0 = [] := rfl
          rw [hnil]
          refine ⟨A5, c5, rfl, by simp, hm5, by simpa using own_base hown5 (show w.heap.size ≤ w2.heap.size by omega), ⟨A, c, ?_, hc, hm', hby5, by omega⟩, ho2.trans (Only.of_below b5)⟩
          rw [Int.natCast_add]; exact hb2.below b5 hg2
        · have hby3 := (hby2.cutted hk hc).taken hmk
          rw [if_neg hck] at hby3
          have hr3 := (hby3.to (hd.mono (by omega)) (Nat.le_refl _)).2
          clear hby3
          go_region_held3 (fun w' => w'.cell? ⟨g, 0, none⟩ = some (.slice A l.length c) ∧ w'.cell? ⟨g, 1, none⟩ = some (.int .i64 ((k : Int) + (m : Int)))) (go_keep) ((refine step_append_sl _ rfl (.tmp 37) (.tmp 52) _ rfl w2.heap.size 5 _ 1 1 Try.underlying23 Try.infoU8 rfl (by omega) _ _ _ rfl (World.ownsRow_made w2.drew #[] 0 (Nat.le_refl _) (Nat.zero_le _) rfl) B _ m (c - k) (((l.drop k).take m).map byteV) rfl hr3 (byteV_one _) (by unfold maxLen; omega) (by omega) (by simp) ?_; intro A5 c5 w5 hc5 hm5 hr5 hbel5 hown5 hgr5 hat5; have e0 : w5.cell? ⟨g, 0, none⟩ = some (.slice A l.length c) := ((hd.trans hbel5).cell (p := ⟨g, 0, none⟩) hg2).trans d0; have e1 : w5.cell? ⟨g, 1, none⟩ = some (.int .i64 ((k : Int) + (m : Int))) := ((hd.trans hbel5).cell (p := ⟨g, 1, none⟩) hg2).trans d1))
          go_wp2
          go_ret
          have b5 := hd.trans hbel5
          have hby5 := And.intro (hby2.to (b5.mono (by omega)) (Nat.le_refl _)) hBg
          refine ⟨A5, c5, (congrArg (fun x => Ending.returned (.slice A5 x c5)) hlen).symm, by omega, hm5, ?_, ⟨A, c, ?_, hc, hm', hby5, by omega⟩, ho2.trans (Only.of_below b5)⟩
          · rw [hlen]; rw [List.nil_append, Nat.zero_add] at hown5; exact own_base hown5 (by omega)
          · rw [Int.natCast_add]; exact hb2.below b5 hg2
  · rw [if_pos he]
    rw [decide_eq_true he] at hov
    have Hov := Lib.hid hov; clear hov he
    go_enter Try.func32, Try.ntmps32
    go_wp2_with fail
    refine Hov.out.mono ?_
    rintro en w' ⟨rfl, rfl⟩
    go_wp2
    go_ret
    exact ⟨none, 0, rfl, Nat.le_refl _, Nat.zero_le _, World.ownsRow_nil _ _ _ _, h, Only.refl g _⟩

theorem curBytes_nil (w : World) (n : Int) :
    Calls Try.prog 32 #[.pointer none, .int .i64 n] w fun en w' => en = .returned (.slice none 0 0) ∧ w = w' := by
  go_enter Try.func32, Try.ntmps32
  go_wp2_with fail
  refine (over_nil w).mono ?_
  rintro en w' ⟨rfl, rfl⟩
  go_wp2
  go_ret
  exact ⟨rfl, rfl⟩

def curText (l : List UInt8) (k e : Nat) (most : Int) : List UInt8 × Nat × Nat :=
  if e ≠ 0 then ([], k, e)
  else if (curU l k e).2.2 ≠ 0 then ([], (curU l k e).2.1, (curU l k e).2.2)
  else if most < 0 ∨ most < ((curU l k e).1 : Int) then ([], k, 5)
  else if l.length - (curU l k e).2.1 < (curU l k e).1 then ([], k, 3)
  else ((l.drop (curU l k e).2.1).take (curU l k e).1, (curU l k e).2.1 + (curU l k e).1, 0)

theorem curText_err {l : List UInt8} {k e : Nat} {most : Int} (h : e ≠ 0) : curText l k e most = ([], k, e) := by unfold curText; rw [if_pos h]
theorem curText_1 {l : List UInt8} {k u k1 e1 : Nat} {most : Int} (hr : curU l k 0 = (u, k1, e1)) (h : e1 ≠ 0) : curText l k 0 most = ([], k1, e1) := by
  unfold curText; rw [if_neg (by omega), hr, if_pos h]
theorem curText_2 {l : List UInt8} {k u k1 : Nat} {most : Int} (hr : curU l k 0 = (u, k1, 0)) (h : most < 0 ∨ most < (u : Int)) : curText l k 0 most = ([], k, 5) := by
  unfold curText; rw [if_neg (by omega), hr, if_neg (by simp), if_pos h]
theorem curText_3 {l : List UInt8} {k u k1 : Nat} {most : Int} (hr : curU l k 0 = (u, k1, 0)) (h : ¬ (most < 0 ∨ most < (u : Int))) (h2 : l.length - k1 < u) : curText l k 0 most = ([], k, 3) := by
  unfold curText; rw [if_neg (by omega), hr, if_neg (by simp), if_neg h, if_pos h2]
theorem curText_4 {l : List UInt8} {k u k1 : Nat} {most : Int} (hr : curU l k 0 = (u, k1, 0)) (h : ¬ (most < 0 ∨ most < (u : Int))) (h2 : ¬ l.length - k1 < u) : curText l k 0 most = ((l.drop k1).take u, k1 + u, 0) := by
  unfold curText; rw [if_neg (by omega), hr, if_neg (by simp), if_neg h, if_neg h2]
theorem curBytes_ok {l : List UInt8} {k u : Nat} (h : ¬ l.length - k < u) (hk : k ≤ l.length) : curBytes l k 0 (u : Int) = ((l.drop k).take u, k + u, 0) := by
  unfold curBytes; rw [if_neg (by omega), if_neg (by omega), Int.toNat_natCast]

set_option maxRecDepth 100000 in
set_option maxHeartbeats 400000 in
theorem curText_calls (w : World) {g B k e : Nat} {l : List UInt8} (h : Cur 59 w g B l k e) (hl : l.length ≤ 140737488351232) (most : Int) (hm : most ≤ 9223372036854775807) :
    Calls Try.prog 34 #[.pointer (some ⟨g, 0, none⟩), .int .i64 most] w (CurRet 59 w g B l (.string ⟨(curText l k e most).1.toArray⟩) (curText l k e most).2.1 (curText l k e most).2.2) := by
  have hov := over_calls w h
  by_cases he : e = 0
  · subst he
    have Hov := Lib.hid hov; clear hov
    have hmax := curU_max l k 0
    have Hu := Lib.hid (curU_calls w h (by omega))
    obtain ⟨A, c, hb, hc, hm', ⟨hby, hBg⟩, hk⟩ := h
    obtain ⟨c0, c1, c2⟩ := cells3 hb
    generalize hr : curU l k 0 = r at *
    obtain ⟨u, k1, e1⟩ := r
    simp only at hmax
    have Hr := Lib.hid hr
    clear hr
    go_enter Try.func34, Try.ntmps34
    go_wp2_with fail
    refine Hov.out.mono ?_
    rintro en w' ⟨rfl, rfl⟩
    go_wp2_with fail
    refine Hu.out.mono ?_
    rintro en w1 ⟨rfl, h1, ho⟩
    have h1' := h1
    obtain ⟨A1, cc1, hb1, hc1, hm1, ⟨hby1, hBg1⟩, hk1⟩ := h1
    obtain ⟨d0, d1, d2⟩ := cells3 hb1
    clear c0 c1 c2
    by_cases he1 : e1 = 0
    · subst he1
      by_cases hbad : most < 0 ∨ most < (u : Int)
      · have Hfin := Lib.hid (curText_2 Hr.out hbad)
        have Hf := Lib.hid (fail_calls w1 h1' k 5 hk)
        by_cases hneg : most < 0
        · clear hbad
          go_wp2_with fail
          refine Hf.out.mono ?_
          rintro en w2 ⟨rfl, h2, ho2⟩
          go_wp2
          go_ret
          rw [Hfin.out]
          exact ⟨rfl, h2, ho.trans ho2⟩
        · have hgt : most < (u : Int) := by omega
          have hw : IntKind.u64.wrap most = most := u64_in (by omega) (by omega)
          clear hbad
          go_wp2_with fail
          refine Hf.out.mono ?_
          rintro en w2 ⟨rfl, h2, ho2⟩
          go_wp2
          go_ret
          rw [Hfin.out]
          exact ⟨rfl, h2, ho.trans ho2⟩
      · have hu2 : (u : Int) ≤ 9223372036854775807 := by omega
        have hneg : ¬ most < 0 := by omega
        have hgt : ¬ most < (u : Int) := by omega
        have hw : IntKind.u64.wrap most = most := u64_in (by omega) (by omega)
        have Hbad := Lib.hid hbad; clear hbad
        have hw2 : IntKind.u64.wrap ((l.length : Int) - (k1 : Int)) = (l.length : Int) - (k1 : Int) := u64_in (by omega) (by omega)
        have hw3 : IntKind.i64.wrap ((l.length : Int) - (k1 : Int)) = (l.length : Int) - (k1 : Int) := by rw [IntKind.wrap_i64]; omega
        by_cases hlong : l.length - k1 < u
        · have Hfin := Lib.hid (curText_3 Hr.out Hbad.out hlong)
          have hlo : (l.length : Int) - (k1 : Int) < (u : Int) := by omega
          have hf := fun wx (hx : Cur 59 wx g B l k1 0) => fail_calls wx hx k 3 hk
          have Hf := Lib.hid hf
          clear hf
          go_wp2_with fail
          go_region_held3 (fun w' => w'.cell? ⟨g, 0, none⟩ = some (.slice A1 l.length cc1) ∧ w'.cell? ⟨g, 1, none⟩ = some (.int .i64 (k1 : Int))) (go_keep) (fail)
          go_wp2_with fail
          refine (Hf.out _ ⟨A1, cc1, hb1.drew, hc1, hm1, ⟨hby1.drew, hBg1⟩, hk1⟩).mono ?_
          rintro en w2 ⟨rfl, h2, ho2⟩
          go_wp2
          go_ret
          rw [Hfin.out]
          exact ⟨rfl, h2, ho.trans ((Only.refl g w1).drew.trans ho2)⟩
        · have Hfin := Lib.hid (curText_4 Hr.out Hbad.out hlong)
          have hlo : ¬ (l.length : Int) - (k1 : Int) < (u : Int) := by omega
          have hx : Cur 59 w1.drew g B l k1 0 := ⟨A1, cc1, hb1.drew, hc1, hm1, ⟨hby1.drew, hBg1⟩, hk1⟩
          have hbb := curBytes_calls w1.drew hx hl (u : Int) hu2
          rw [curBytes_ok hlong hk1] at hbb
          have Hbb := Lib.hid hbb
          clear hbb hlong
          go_wp2_with fail
          go_region_held3 (fun w' => w'.cell? ⟨g, 0, none⟩ = some (.slice A1 l.length cc1) ∧ w'.cell? ⟨g, 1, none⟩ = some (.int .i64 (k1 : Int))) (go_keep) (fail)
          go_wp2_with fail
          refine Hbb.out.mono ?_
          rintro en w2 ⟨A2, c2, rfl, hc2, hm2, hown2, h2, ho2⟩
          have hby2 := own_bytes hown2
          have kc := hby2.conv Try.prog c2 23 5 9 Try.underlying23 Try.underlying5 Try.underlying9
          generalize (l.drop k1).take u = bs at *
          go_wp2
          go_ret
          rw [Hfin.out]
          exact ⟨rfl, h2, ho.trans ((Only.refl g w1).drew.trans ho2)⟩
    · have Hfin := Lib.hid (curText_1 (most := most) Hr.out he1)
      have q2 : ((e1 : Int) != 0) = true := net (by omega)
      clear he1
      go_wp2
      go_ret
      rw [Hfin.out]
      exact ⟨rfl, h1', ho⟩
  · rw [curText_err he]
    rw [decide_eq_true he] at hov
    have Hov := Lib.hid hov; clear hov he
    go_enter Try.func34, Try.ntmps34
    go_wp2_with fail
    refine Hov.out.mono ?_
    rintro en w' ⟨rfl, rfl⟩
    go_wp2
    go_ret
    exact ⟨rfl, h, Only.refl g _⟩

theorem text_nil (w : World) (most : Int) :
    Calls Try.prog 34 #[.pointer none, .int .i64 most] w fun en w' => en = .returned (.string ⟨#[]⟩) ∧ w = w' := by
  go_enter Try.func34, Try.ntmps34
  go_wp2_with fail
  refine (over_nil w).mono ?_
  rintro en w' ⟨rfl, rfl⟩
  go_wp2
  go_ret
  exact ⟨rfl, rfl⟩
end Go.Proofs.Ytmbnbeihgggkcaa
