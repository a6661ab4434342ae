/- The walk of ManifestReads. -/
import Derived.Test.YtjbmlhipjceeeaaGreatProg
import Derived.Test.YtjbmlhipjceeeaaGreatMfDb
import Derived.Test.YtjbmlhipjceeeaaGreatMfDc
import Derived.Test.YtjbmlhipjceeeaaGreatMfW
import Derived.Test.YtjbmlhipjceeeaaGreatMfX
import Derived.Test.YtjbmlhipjceeeaaGreatMfZ
import Derived.Test.YtjbmlhipjceeeaaGreatMNu
namespace Go.Proofs.YtjbmlhipjceeeaaGreat.lawManifestReads
set_option linter.unusedVariables false
set_option linter.unusedSimpArgs false
open Go.RowKit Go.Proofs.YtjbmlhipjceeeaaGreat Go.Proofs.YtjbmlhipjceeeaaGreat.Mf

set_option maxRecDepth 100000 in
set_option maxHeartbeats 6400000 in
theorem body (w : World) {B n c : Nat} {A : Option Addr} {l : List UInt8} (h : Bytes w B A n l) (hB : B ≤ w.heap.size) (hnc : n ≤ c) (hm : Sh w) :
    Calls Tryz.prog 5 #[.slice A n c] w fun e w' => e = .returned (.bool true) ∧ Below w.heap.size w w' := by
  have HLv := Lib.hid fun W (hW : Below w.heap.size w W) => lives_calls W (hm.below hW hm.lt)
  have HBy := Lib.hid fun W (hW : Below w.heap.size w W) => h.below (hW.mono hB)
  have HSh := Lib.hid fun W (hW : Below w.heap.size w W) => hm.below hW hm.lt
  have hlen := h.len
  subst hlen
  clear h hm
  go_enter Tryz.func5, Tryz.ntmps5
  go_wp2_with fail
  refine (HLv.out _ (Below.refl _ _)).mono ?_
  rintro e w1 ⟨rfl, hb1⟩
  by_cases hl : l.length ≤ 5000
  · have t1 : decide ((5000 : Int) < (l.length : Int)) = false := dcf (by omega)
    have HG := Lib.hid (dec_good l)
    have HDp := Lib.hid fun W (B' c' : Nat) (A' : Option Addr) (h' : Bytes W B' A' l.length l) (hB' : B' ≤ W.heap.size) (hc' : l.length ≤ c') (hm' : Sh W) => dec_calls W h' hB' hc' (by omega) hm'
    have HDr := Lib.hid fun W (B' c' : Nat) (A' : Option Addr) (h' : Bytes W B' A' l.length l) (hB' : B' ≤ W.heap.size) (hc' : l.length ≤ c') => decR_calls W h' hB' hc' (by omega)
    generalize (decB l).1 = M at *
    generalize (decB l).2 = er at *
    have n0 : (er == er) = true := eqt rfl
    have hs1 := hb1.size
    have HTw := Lib.hid (Nu.twin_calls w1 (c := c) (HBy.out _ hb1) (by omega) (by omega))
    have HB1 := Lib.hid hb1
    clear hb1 hl
    go_wp2_with fail
    refine HTw.out.mono ?_
    rintro e w2 he2
    obtain ⟨A2, c2, rfl, hc2, hm2, hby2, hb2, -⟩ := he2.opened
    have HB2 := Lib.hid (HB1.out.trans (hb2.mono hs1))
    have HBy2 := Lib.hid fun W (hW : Below w2.heap.size w2 W) => hby2.below hW
    have hs2 := HB2.out.size
    clear he2 hb2 hby2 HTw HB1
    go_wp2_with fail
    refine (HDp.out w2 _ c2 _ (HBy2.out _ (Below.refl _ _)) (Nat.le_refl _) hc2 (HSh.out _ HB2.out)).mono ?_
    rintro e w3 ⟨pz, rfl, hmo, hb3⟩
    obtain ⟨ZE, zE, ZM, zM, ZO, zO⟩ := pz
    have hs3 := hb3.size
    have hb4 : Below w2.heap.size w2 (w3.alloc (.cells #[.int .i64 M.gen, .int .i64 M.cut, .int .i64 M.fence, .slice ZE M.E.length zE, .slice ZM M.M.length zM, .slice ZO M.O.length zO] 26)) := hb3.alloc hs3 _
    have HMx := Lib.hid fun W (hW : Below w3.heap.size w3 W) => (hmo.man (by have := HG.out.1; omega) (by have := HG.out.2.1; omega) (by have := HG.out.2.2.1; omega) HG.out.2.2.2).below hW
    have HBx := Lib.hid (Blk.new w3 26 #[.int .i64 M.gen, .int .i64 M.cut, .int .i64 M.fence, .slice ZE M.E.length zE, .slice ZM M.M.length zM, .slice ZO M.O.length zO])
    have HB4 := Lib.hid hb4
    have HA3 := Lib.hid ((Below.refl w3.heap.size w3).alloc (Nat.le_refl _) (.cells #[.int .i64 M.gen, .int .i64 M.cut, .int .i64 M.fence, .slice ZE M.E.length zE, .slice ZM M.M.length zM, .slice ZO M.O.length zO] 26))
    clear hmo hb3 hb4 HDp
    go_wp2_with fail
    have hs4 : (w3.alloc (.cells #[.int .i64 M.gen, .int .i64 M.cut, .int .i64 M.fence, .slice ZE M.E.length zE, .slice ZM M.M.length zM, .slice ZO M.O.length zO] 26)).heap.size = w3.heap.size + 1 := by simp
    generalize w3.alloc (.cells #[.int .i64 M.gen, .int .i64 M.cut, .int .i64 M.fence, .slice ZE M.E.length zE, .slice ZM M.M.length zM, .slice ZO M.O.length zO] 26) = w4 at *
    have hbw4 := HB2.out.trans (HB4.out.mono hs2)
    refine (HDr.out w4 _ c _ (HBy.out _ hbw4) (Nat.le_trans hB hbw4.size) hnc).mono ?_
    rintro e w5 ⟨pz, rfl, hmo, hb5⟩
    obtain ⟨YE, yE, YM, yM, YO, yO⟩ := pz
    have hs5 := hb5.size
    have hbx5 := HBx.out.below hb5 (by omega)
    obtain ⟨q0, q1, q2, q3, q4, q5⟩ : w5.cell? ⟨w3.heap.size, 0, none⟩ = some (.int .i64 M.gen) ∧ w5.cell? ⟨w3.heap.size, 1, none⟩ = some (.int .i64 M.cut) ∧ w5.cell? ⟨w3.heap.size, 2, none⟩ = some (.int .i64 M.fence) ∧ w5.cell? ⟨w3.heap.size, 3, none⟩ = some (.slice ZE M.E.length zE) ∧ w5.cell? ⟨w3.heap.size, 4, none⟩ = some (.slice ZM M.M.length zM) ∧ w5.cell? ⟨w3.heap.size, 5, none⟩ = some (.slice ZO M.O.length zO) := ⟨hbx5.cell 0, hbx5.cell 1, hbx5.cell 2, hbx5.cell 3, hbx5.cell 4, hbx5.cell 5⟩
    have HA5 := Lib.hid ((Below.refl w5.heap.size w5).alloc (Nat.le_refl _) (.cells #[.int .i64 M.gen, .int .i64 M.cut, .int .i64 M.fence, .slice YE M.E.length yE, .slice YM M.M.length yM, .slice YO M.O.length yO] 26))
    have HMy := Lib.hid fun W (hW : Below w5.heap.size w5 W) => (hmo.man (by have := HG.out.1; omega) (by have := HG.out.2.1; omega) (by have := HG.out.2.2.1; omega) HG.out.2.2.2).below hW
    have HB34 := Lib.hid (HA3.out.trans (hb5.mono (by omega)))
    have HB25 := Lib.hid (HB4.out.trans (hb5.mono (by omega)))
    have hg35 : w3.heap.size < w5.heap.size := by omega
    have HSm := Lib.hid (same_self M)
    clear hmo hb5 hbx5 HBx HB4 HA3 HDr HG
    go_wp2_with fail
    clear q0 q1 q2 q3 q4 q5
    have hs6 : (w5.alloc (.cells #[.int .i64 M.gen, .int .i64 M.cut, .int .i64 M.fence, .slice YE M.E.length yE, .slice YM M.M.length yM, .slice YO M.O.length yO] 26)).heap.size = w5.heap.size + 1 := by simp
    generalize w5.alloc (.cells #[.int .i64 M.gen, .int .i64 M.cut, .int .i64 M.fence, .slice YE M.E.length yE, .slice YM M.M.length yM, .slice YO M.O.length yO] 26) = w6 at *
    refine (sameM_calls w6 (HMx.out _ (HB34.out.trans (HA5.out.mono (by omega)))) (HMy.out _ HA5.out) (by omega) (by omega)).mono ?_
    rintro e w7 ⟨rfl, hb7⟩
    rw [HSm.out]
    have hb27 : Below w2.heap.size w2 w7 := (HB25.out.trans (HA5.out.mono (by omega))).trans (hb7.mono (by omega))
    have hbw7 : Below w.heap.size w w7 := HB2.out.trans (hb27.mono hs2)
    have HFin := Lib.hid (Nu.same_calls w7 (c1 := c2) (c2 := c) (HBy2.out _ hb27) (HBy.out _ hbw7))
    have HBf := Lib.hid hbw7
    have hll : (l == l) = true := beq_self_eq_true l
    have HLL := Lib.hid hll
    clear hb7 hb27 hbw7 HMx HMy HA5 HB34 HB25 hll
    go_wp2_with fail
    refine HFin.out.mono ?_
    rintro e w8 ⟨rfl, rfl⟩
    rw [HLL.out]
    clear HFin
    go_wp2
    go_ret
    exact ⟨rfl, HBf.out⟩
  · have t1 : decide ((5000 : Int) < (l.length : Int)) = true := dct (by omega)
    clear hl
    go_wp2_with fail
    refine (HLv.out _ hb1).mono ?_
    rintro e w2 ⟨rfl, hb2⟩
    go_wp2
    go_ret
    exact ⟨rfl, hb1.trans (hb2.mono hb1.size)⟩
theorem walk {H : Type} {enc : TypeId × Value → H} {W : World} {base : Nat} {v0 : Value} {d0 : DataW H} {p0 : List MemPlace} (hsh : W.ShapedOpen Tryz.prog) (g0 : Arg enc Tryz.prog W base 46 v0 d0 p0) :
    Calls Tryz.prog 5 #[v0] W fun e w' => e = .returned (.bool true) ∧ Below W.heap.size W w' := by
  obtain ⟨A, n, c, l, rfl, hn, hc, hb⟩ := g0.bytes Tryz.underlying46 Tryz.underlying5 (by kernel_rfl) (by kernel_rfl)
  exact body W hb (Nat.le_refl _) hn (var0 hsh)
end Go.Proofs.YtjbmlhipjceeeaaGreat.lawManifestReads
