/- Right: is it a manifest? Of the program (chapter 13). -/
import Derived.Test.YtjbmlhipjceeeaaGreatProg
import Derived.Test.YtjbmlhipjceeeaaGreatMfF
namespace Go.Proofs.YtjbmlhipjceeeaaGreat.Mf
set_option linter.unusedVariables false
set_option linter.unusedSimpArgs false
open Go.RowKit Go.Proofs.YtjbmlhipjceeeaaGreat

/-- A manifest; where its lists lie. -/
structure Md where
  gen : Int
  cut : Int
  fence : Int
  E : List En
  M : List Mk
  O : List Ow
deriving DecidableEq, Inhabited
structure Pl where
  AE : Option Addr
  cE : Nat
  AM : Option Addr
  cM : Nat
  AO : Option Addr
  cO : Nat
abbrev mdV (m : Md) (p : Pl) : Value := .agg #[.int .i64 m.gen, .int .i64 m.cut, .int .i64 m.fence, .slice p.AE m.E.length p.cE, .slice p.AM m.M.length p.cM, .slice p.AO m.O.length p.cO]
structure Man (w : World) (B : Nat) (m : Md) (p : Pl) : Prop where
  re : Reads w B 9 p.AE m.E.length (m.E.flatMap En.cs)
  rm : Reads w B 2 p.AM m.M.length (m.M.flatMap Mk.cs)
  ro : Reads w B 3 p.AO m.O.length (m.O.flatMap Ow.cs)
  le : m.E.length ≤ 17592186044416
  lm : m.M.length ≤ 17592186044416
  lo : m.O.length ≤ 17592186044416
  ce : m.E.length ≤ p.cE
  cm : m.M.length ≤ p.cM
  co : m.O.length ≤ p.cO
  ok : ∀ x ∈ m.E, x.Ok
/-- No word of it is too long to be read. -/
def Short (l : List En) : Prop := ∀ x ∈ l, x.part.size ≤ 100000
theorem Man.below {w w' : World} {B : Nat} {m : Md} {p : Pl} (h : Man w B m p) (hb : Below B w w') : Man w' B m p := ⟨h.re.below hb, h.rm.below hb, h.ro.below hb, h.le, h.lm, h.lo, h.ce, h.cm, h.co, h.ok⟩
theorem Man.more {w : World} {B B' : Nat} {m : Md} {p : Pl} (h : Man w B m p) (hB : B ≤ B') : Man w B' m p := ⟨h.re.more hB, h.rm.more hB, h.ro.more hB, h.le, h.lm, h.lo, h.ce, h.cm, h.co, h.ok⟩
def lowB (m : Md) : Bool := m.E.any fun x => decide (x.window < m.cut)
noncomputable def rightB (m : Md) : Bool := numB m.gen 0 && numB m.cut 0 && numB m.fence 0 && decide (m.E.length ≤ 256) && !lowB m && risB enB ltE m.E && risB mkB ltM m.M && risB owB ltO m.O

set_option maxRecDepth 100000 in
set_option maxHeartbeats 3200000 in
theorem right_calls (w : World) {B : Nat} {m : Md} {p : Pl} (h : Man w B m p) (hB : B ≤ w.heap.size) (hs : Short m.E) (hm : Sh w) : Calls Tryz.prog 17 #[mdV m p] w fun e w' => e = .returned (.bool (rightB m)) ∧ Below w.heap.size w w' := by
  have HB := Lib.hid ((Below.refl w.heap.size w).alloc (Nat.le_refl _) (.cells #[.int .i64 m.gen, .int .i64 m.cut, .int .i64 m.fence, .slice p.AE m.E.length p.cE, .slice p.AM m.M.length p.cM, .slice p.AO m.O.length p.cO] 26))
  have HK : Hid (∀ W, Below (w.heap.size + 1) (w.alloc (.cells #[.int .i64 m.gen, .int .i64 m.cut, .int .i64 m.fence, .slice p.AE m.E.length p.cE, .slice p.AM m.M.length p.cM, .slice p.AO m.O.length p.cO] 26)) W → W.cell? ⟨w.heap.size, 0, none⟩ = some (.int .i64 m.gen) ∧ W.cell? ⟨w.heap.size, 1, none⟩ = some (.int .i64 m.cut) ∧ W.cell? ⟨w.heap.size, 2, none⟩ = some (.int .i64 m.fence) ∧ W.cell? ⟨w.heap.size, 3, none⟩ = some (.slice p.AE m.E.length p.cE) ∧ W.cell? ⟨w.heap.size, 4, none⟩ = some (.slice p.AM m.M.length p.cM) ∧ W.cell? ⟨w.heap.size, 5, none⟩ = some (.slice p.AO m.O.length p.cO)) := Lib.hid fun W hW => by
    have hb := (Blk.new w 26 #[.int .i64 m.gen, .int .i64 m.cut, .int .i64 m.fence, .slice p.AE m.E.length p.cE, .slice p.AM m.M.length p.cM, .slice p.AO m.O.length p.cO]).below hW (Nat.lt_succ_self _)
    exact ⟨hb.cell 0, hb.cell 1, hb.cell 2, hb.cell 3, hb.cell 4, hb.cell 5⟩
  have HA : Hid (Calls Tryz.prog 47 #[.slice p.AE m.E.length p.cE, .func (.func 48) #[] #[.pointer (some ⟨w.heap.size, 0, none⟩)]] (w.alloc (.cells #[.int .i64 m.gen, .int .i64 m.cut, .int .i64 m.fence, .slice p.AE m.E.length p.cE, .slice p.AM m.M.length p.cM, .slice p.AO m.O.length p.cO] 26)) fun e w' => e = .returned (.bool (lowB m)) ∧ Below (w.heap.size + 1) (w.alloc (.cells #[.int .i64 m.gen, .int .i64 m.cut, .int .i64 m.fence, .slice p.AE m.E.length p.cE, .slice p.AM m.M.length p.cM, .slice p.AO m.O.length p.cO] 26)) w') := Lib.hid (by
    refine (anyE_calls (w.alloc (.cells #[.int .i64 m.gen, .int .i64 m.cut, .int .i64 m.fence, .slice p.AE m.E.length p.cE, .slice p.AM m.M.length p.cM, .slice p.AO m.O.length p.cO] 26)) (p := fun x => decide (x.window < m.cut)) ⟨enters_of Tryz.func48 (by kernel_rfl) rfl, fun x _ W hW => ?_⟩ (h.re.below (HB.out.mono hB)) (by simp; omega) h.le).mono ?_
    · rw [World.size_alloc] at hW
      exact low_calls x W (HK.out W hW).2.1
    · rintro e w' ⟨rfl, hb⟩
      rw [World.size_alloc] at hb
      exact ⟨rfl, hb⟩)
  have HE := Lib.hid fun W (hW : Below w.heap.size w W) => risingE_calls W (c := p.cE) (h.re.below (hW.mono hB)) (by have := hW.size; omega) h.le (fun x hx => ⟨h.ok x hx, hs x hx⟩) (hm.below hW hm.lt)
  have HM := Lib.hid fun W (hW : Below w.heap.size w W) => risingM_calls W (c := p.cM) (h.rm.below (hW.mono hB)) (by have := hW.size; omega) h.lm
  have HO := Lib.hid fun W (hW : Below w.heap.size w W) => risingO_calls W (c := p.cO) (h.ro.below (hW.mono hB)) (by have := hW.size; omega) h.lo
  have HN := Lib.hid num_calls
  have HD : Hid (rightB m = (numB m.gen 0 && numB m.cut 0 && numB m.fence 0 && decide (m.E.length ≤ 256) && !lowB m && risB enB ltE m.E && risB mkB ltM m.M && risB owB ltO m.O)) := Lib.hid rfl
  have hle := h.le
  clear h hs hm
  generalize rightB m = out at *
  generalize lowB m = low at *
  generalize risB enB ltE m.E = re at *
  generalize risB mkB ltM m.M = rm at *
  generalize risB owB ltO m.O = ro at *
  go_enter Tryz.func17, Tryz.ntmps17
  go_wp2_with fail
  refine HA.out.mono ?_
  rintro e w1 ⟨rfl, hb1⟩
  obtain ⟨q0, q1, q2, q3, q4, q5⟩ := HK.out w1 hb1
  have hb01 : Below w.heap.size w w1 := HB.out.trans (hb1.mono (by omega))
  have HB1 := Lib.hid hb1
  have hsz := hb01.size
  have hs1 : w.heap.size + 1 ≤ w1.heap.size := by have := hb1.size; rw [World.size_alloc] at this; exact this
  clear hb1 HA HB
  by_cases e0 : numB m.gen 0 = true
  · have te0 : numB m.gen 0 = true := e0
    by_cases e1 : numB m.cut 0 = true
    · have te1 : numB m.cut 0 = true := e1
      by_cases e2 : numB m.fence 0 = true
      · have te2 : numB m.fence 0 = true := e2
        by_cases e3 : m.E.length ≤ 256
        · have te3 : decide ((m.E.length : Int) ≤ 256) = true := dct (by omega)
          by_cases e4 : low = false
          · have te4 : low = false := e4
            by_cases e5 : re = true
            · have te5 : re = true := e5
              by_cases e6 : rm = true
              · have te6 : rm = true := e6
                have HV : Hid (out = ro) := Lib.hid (by rw [HD.out, te0, te1, te2, dct e3, te4, te5, te6]; rfl)
                clear HD
                subst e4 e5 e6
                go_wp2_with first | (go_at_call 49; refine (HN.out _ _ _).mono ?_; rintro e w9 ⟨rfl, rfl⟩) | (go_at_call 50; refine (HE.out _ hb01).mono ?_; rintro e w2 ⟨rfl, hb2'⟩; have hb2 : Below w.heap.size w w2 := hb01.trans (hb2'.mono hsz); have hs2 := hb2.size; have hg2 := HB1.out.trans (hb2'.mono hs1); have hs12 : w.heap.size + 1 ≤ w2.heap.size := Nat.le_trans hs1 hb2'.size; obtain ⟨r0, r1, r2, r3, r4, r5⟩ := HK.out w2 hg2; clear hb2') | (go_at_call 53; refine (HM.out _ hb2).mono ?_; rintro e w3 ⟨rfl, hb3'⟩; have hb3 : Below w.heap.size w w3 := hb2.trans (hb3'.mono hs2); have hs3 := hb3.size; have hg3 := hg2.trans (hb3'.mono hs12); obtain ⟨t0, t1, t2, t3, t4, t5⟩ := HK.out w3 hg3; clear hb3') | (go_at_call 55; refine (HO.out _ hb3).mono ?_; rintro e w4 ⟨rfl, hb4'⟩; have hb4 : Below w.heap.size w w4 := hb3.trans (hb4'.mono hs3))
                go_ret
                exact ⟨by rw [HV.out]; rfl, by exact hb4⟩
              · have te6 : rm = false := by simpa using e6
                have HV : Hid (out = false) := Lib.hid (by rw [HD.out]; first | (rw [te6]; simp) | (rw [dcf e6]; simp))
                clear HD
                go_wp2_with first | (go_at_call 49; refine (HN.out _ _ _).mono ?_; rintro e w9 ⟨rfl, rfl⟩) | (go_at_call 50; refine (HE.out _ hb01).mono ?_; rintro e w2 ⟨rfl, hb2'⟩; have hb2 : Below w.heap.size w w2 := hb01.trans (hb2'.mono hsz); have hs2 := hb2.size; have hg2 := HB1.out.trans (hb2'.mono hs1); have hs12 : w.heap.size + 1 ≤ w2.heap.size := Nat.le_trans hs1 hb2'.size; obtain ⟨r0, r1, r2, r3, r4, r5⟩ := HK.out w2 hg2; clear hb2') | (go_at_call 53; refine (HM.out _ hb2).mono ?_; rintro e w3 ⟨rfl, hb3'⟩; have hb3 : Below w.heap.size w w3 := hb2.trans (hb3'.mono hs2); have hs3 := hb3.size; have hg3 := hg2.trans (hb3'.mono hs12); obtain ⟨t0, t1, t2, t3, t4, t5⟩ := HK.out w3 hg3; clear hb3') | (go_at_call 55; refine (HO.out _ hb3).mono ?_; rintro e w4 ⟨rfl, hb4'⟩; have hb4 : Below w.heap.size w w4 := hb3.trans (hb4'.mono hs3))
                go_ret
                exact ⟨by rw [HV.out]; rfl, by first | exact hb4 | exact hb3 | exact hb2 | exact hb01⟩
            · have te5 : re = false := by simpa using e5
              have HV : Hid (out = false) := Lib.hid (by rw [HD.out]; first | (rw [te5]; simp) | (rw [dcf e5]; simp))
              clear HD
              go_wp2_with first | (go_at_call 49; refine (HN.out _ _ _).mono ?_; rintro e w9 ⟨rfl, rfl⟩) | (go_at_call 50; refine (HE.out _ hb01).mono ?_; rintro e w2 ⟨rfl, hb2'⟩; have hb2 : Below w.heap.size w w2 := hb01.trans (hb2'.mono hsz); have hs2 := hb2.size; have hg2 := HB1.out.trans (hb2'.mono hs1); have hs12 : w.heap.size + 1 ≤ w2.heap.size := Nat.le_trans hs1 hb2'.size; obtain ⟨r0, r1, r2, r3, r4, r5⟩ := HK.out w2 hg2; clear hb2') | (go_at_call 53; refine (HM.out _ hb2).mono ?_; rintro e w3 ⟨rfl, hb3'⟩; have hb3 : Below w.heap.size w w3 := hb2.trans (hb3'.mono hs2); have hs3 := hb3.size; have hg3 := hg2.trans (hb3'.mono hs12); obtain ⟨t0, t1, t2, t3, t4, t5⟩ := HK.out w3 hg3; clear hb3') | (go_at_call 55; refine (HO.out _ hb3).mono ?_; rintro e w4 ⟨rfl, hb4'⟩; have hb4 : Below w.heap.size w w4 := hb3.trans (hb4'.mono hs3))
              go_ret
              exact ⟨by rw [HV.out]; rfl, by first | exact hb4 | exact hb3 | exact hb2 | exact hb01⟩
          · have te4 : low = true := by simpa using e4
            have HV : Hid (out = false) := Lib.hid (by rw [HD.out]; first | (rw [te4]; simp) | (rw [dcf e4]; simp))
            clear HD
            go_wp2_with first | (go_at_call 49; refine (HN.out _ _ _).mono ?_; rintro e w9 ⟨rfl, rfl⟩) | (go_at_call 50; refine (HE.out _ hb01).mono ?_; rintro e w2 ⟨rfl, hb2'⟩; have hb2 : Below w.heap.size w w2 := hb01.trans (hb2'.mono hsz); have hs2 := hb2.size; have hg2 := HB1.out.trans (hb2'.mono hs1); have hs12 : w.heap.size + 1 ≤ w2.heap.size := Nat.le_trans hs1 hb2'.size; obtain ⟨r0, r1, r2, r3, r4, r5⟩ := HK.out w2 hg2; clear hb2') | (go_at_call 53; refine (HM.out _ hb2).mono ?_; rintro e w3 ⟨rfl, hb3'⟩; have hb3 : Below w.heap.size w w3 := hb2.trans (hb3'.mono hs2); have hs3 := hb3.size; have hg3 := hg2.trans (hb3'.mono hs12); obtain ⟨t0, t1, t2, t3, t4, t5⟩ := HK.out w3 hg3; clear hb3') | (go_at_call 55; refine (HO.out _ hb3).mono ?_; rintro e w4 ⟨rfl, hb4'⟩; have hb4 : Below w.heap.size w w4 := hb3.trans (hb4'.mono hs3))
            go_ret
            exact ⟨by rw [HV.out]; rfl, by first | exact hb4 | exact hb3 | exact hb2 | exact hb01⟩
        · have te3 : decide ((m.E.length : Int) ≤ 256) = false := dcf (by omega)
          have HV : Hid (out = false) := Lib.hid (by rw [HD.out]; first | (rw [te3]; simp) | (rw [dcf e3]; simp))
          clear HD
          go_wp2_with first | (go_at_call 49; refine (HN.out _ _ _).mono ?_; rintro e w9 ⟨rfl, rfl⟩) | (go_at_call 50; refine (HE.out _ hb01).mono ?_; rintro e w2 ⟨rfl, hb2'⟩; have hb2 : Below w.heap.size w w2 := hb01.trans (hb2'.mono hsz); have hs2 := hb2.size; have hg2 := HB1.out.trans (hb2'.mono hs1); have hs12 : w.heap.size + 1 ≤ w2.heap.size := Nat.le_trans hs1 hb2'.size; obtain ⟨r0, r1, r2, r3, r4, r5⟩ := HK.out w2 hg2; clear hb2') | (go_at_call 53; refine (HM.out _ hb2).mono ?_; rintro e w3 ⟨rfl, hb3'⟩; have hb3 : Below w.heap.size w w3 := hb2.trans (hb3'.mono hs2); have hs3 := hb3.size; have hg3 := hg2.trans (hb3'.mono hs12); obtain ⟨t0, t1, t2, t3, t4, t5⟩ := HK.out w3 hg3; clear hb3') | (go_at_call 55; refine (HO.out _ hb3).mono ?_; rintro e w4 ⟨rfl, hb4'⟩; have hb4 : Below w.heap.size w w4 := hb3.trans (hb4'.mono hs3))
          go_ret
          exact ⟨by rw [HV.out]; rfl, by first | exact hb4 | exact hb3 | exact hb2 | exact hb01⟩
      · have te2 : numB m.fence 0 = false := by simpa using e2
        have HV : Hid (out = false) := Lib.hid (by rw [HD.out]; first | (rw [te2]; simp) | (rw [dcf e2]; simp))
        clear HD
        go_wp2_with first | (go_at_call 49; refine (HN.out _ _ _).mono ?_; rintro e w9 ⟨rfl, rfl⟩) | (go_at_call 50; refine (HE.out _ hb01).mono ?_; rintro e w2 ⟨rfl, hb2'⟩; have hb2 : Below w.heap.size w w2 := hb01.trans (hb2'.mono hsz); have hs2 := hb2.size; have hg2 := HB1.out.trans (hb2'.mono hs1); have hs12 : w.heap.size + 1 ≤ w2.heap.size := Nat.le_trans hs1 hb2'.size; obtain ⟨r0, r1, r2, r3, r4, r5⟩ := HK.out w2 hg2; clear hb2') | (go_at_call 53; refine (HM.out _ hb2).mono ?_; rintro e w3 ⟨rfl, hb3'⟩; have hb3 : Below w.heap.size w w3 := hb2.trans (hb3'.mono hs2); have hs3 := hb3.size; have hg3 := hg2.trans (hb3'.mono hs12); obtain ⟨t0, t1, t2, t3, t4, t5⟩ := HK.out w3 hg3; clear hb3') | (go_at_call 55; refine (HO.out _ hb3).mono ?_; rintro e w4 ⟨rfl, hb4'⟩; have hb4 : Below w.heap.size w w4 := hb3.trans (hb4'.mono hs3))
        go_ret
        exact ⟨by rw [HV.out]; rfl, by first | exact hb4 | exact hb3 | exact hb2 | exact hb01⟩
    · have te1 : numB m.cut 0 = false := by simpa using e1
      have HV : Hid (out = false) := Lib.hid (by rw [HD.out]; first | (rw [te1]; simp) | (rw [dcf e1]; simp))
      clear HD
      go_wp2_with first | (go_at_call 49; refine (HN.out _ _ _).mono ?_; rintro e w9 ⟨rfl, rfl⟩) | (go_at_call 50; refine (HE.out _ hb01).mono ?_; rintro e w2 ⟨rfl, hb2'⟩; have hb2 : Below w.heap.size w w2 := hb01.trans (hb2'.mono hsz); have hs2 := hb2.size; have hg2 := HB1.out.trans (hb2'.mono hs1); have hs12 : w.heap.size + 1 ≤ w2.heap.size := Nat.le_trans hs1 hb2'.size; obtain ⟨r0, r1, r2, r3, r4, r5⟩ := HK.out w2 hg2; clear hb2') | (go_at_call 53; refine (HM.out _ hb2).mono ?_; rintro e w3 ⟨rfl, hb3'⟩; have hb3 : Below w.heap.size w w3 := hb2.trans (hb3'.mono hs2); have hs3 := hb3.size; have hg3 := hg2.trans (hb3'.mono hs12); obtain ⟨t0, t1, t2, t3, t4, t5⟩ := HK.out w3 hg3; clear hb3') | (go_at_call 55; refine (HO.out _ hb3).mono ?_; rintro e w4 ⟨rfl, hb4'⟩; have hb4 : Below w.heap.size w w4 := hb3.trans (hb4'.mono hs3))
      go_ret
      exact ⟨by rw [HV.out]; rfl, by first | exact hb4 | exact hb3 | exact hb2 | exact hb01⟩
  · have te0 : numB m.gen 0 = false := by simpa using e0
    have HV : Hid (out = false) := Lib.hid (by rw [HD.out]; first | (rw [te0]; simp) | (rw [dcf e0]; simp))
    clear HD
    go_wp2_with first | (go_at_call 49; refine (HN.out _ _ _).mono ?_; rintro e w9 ⟨rfl, rfl⟩) | (go_at_call 50; refine (HE.out _ hb01).mono ?_; rintro e w2 ⟨rfl, hb2'⟩; have hb2 : Below w.heap.size w w2 := hb01.trans (hb2'.mono hsz); have hs2 := hb2.size; have hg2 := HB1.out.trans (hb2'.mono hs1); have hs12 : w.heap.size + 1 ≤ w2.heap.size := Nat.le_trans hs1 hb2'.size; obtain ⟨r0, r1, r2, r3, r4, r5⟩ := HK.out w2 hg2; clear hb2') | (go_at_call 53; refine (HM.out _ hb2).mono ?_; rintro e w3 ⟨rfl, hb3'⟩; have hb3 : Below w.heap.size w w3 := hb2.trans (hb3'.mono hs2); have hs3 := hb3.size; have hg3 := hg2.trans (hb3'.mono hs12); obtain ⟨t0, t1, t2, t3, t4, t5⟩ := HK.out w3 hg3; clear hb3') | (go_at_call 55; refine (HO.out _ hb3).mono ?_; rintro e w4 ⟨rfl, hb4'⟩; have hb4 : Below w.heap.size w w4 := hb3.trans (hb4'.mono hs3))
    go_ret
    exact ⟨by rw [HV.out]; rfl, by first | exact hb4 | exact hb3 | exact hb2 | exact hb01⟩
end Go.Proofs.YtjbmlhipjceeeaaGreat.Mf
