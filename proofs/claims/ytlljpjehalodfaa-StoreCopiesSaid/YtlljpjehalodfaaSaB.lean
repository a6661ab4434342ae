/- The statements' helpers (chapter 14): call, Few, lives. -/
import Derived.Test.YtlljpjehalodfaaProg
import Derived.Test.YtlljpjehalodfaaSaA
namespace Go.Proofs.Ytlljpjehalodfaa
open Go.RowKit
namespace St

def Ac.data (a : Ac) : Bs := if 0 < a.big then List.replicate (min a.big 262145).toNat 0 else a.d
def Ac.cl (a : Ac) (A : Option Addr) (c : Nat) : Cl := ⟨a.kind, a.key, A, c, a.data, a.ver, a.at_, a.n, a.id⟩
set_option maxRecDepth 100000 in
set_option maxHeartbeats 1600000 in
theorem call_calls (w : World) {gs : Nat} (a : Ac) (hd : Dat w gs a.A a.c a.d) (hgs : gs < w.heap.size) :
    Calls Try.prog 13 #[a.val] w fun e w' => ∃ A c, e = .returned (a.cl A c).val ∧ Dat w' gs A c a.data ∧ Below w.heap.size w w' := by
  obtain ⟨kind, key, A, c, d, ver, at_, n, id, big⟩ := a
  unfold Ac.val Ac.cl Ac.data Cl.val Cl.cells
  dsimp only at *
  have HD := Lib.hid hd
  clear hd
  by_cases hb : 0 < big
  · have d1 := dct hb
    obtain ⟨m, hm⟩ : ∃ m : Nat, min big 262145 = (m : Int) := ⟨(min big 262145).toNat, by omega⟩
    have hm9 : m ≤ 262145 := by omega
    have e1 : (if 0 < big then List.replicate (min big 262145).toNat (0 : UInt8) else d) = List.replicate m 0 := by rw [if_pos hb, hm]; rfl
    rw [e1]
    clear e1
    go_enter Try.func13, Try.ntmps13
    go_upto_region 3 with fail
    have hw3 : Below w.heap.size w (((w.alloc (.cells #[.int .i64 kind, .string key, .slice A d.length c, .int .i64 ver, .int .i64 at_, .int .i64 n, .int .i64 id, .int .i64 big] 32)).alloc (.cells #[.int .i64 0, .string ⟨#[]⟩, .slice none 0 0, .int .i64 0, .int .i64 0, .int .i64 0, .int .i64 0] 30)).alloc (.cells #[.int .i64 kind, .string key, .slice A d.length c, .int .i64 ver, .int .i64 at_, .int .i64 n, .int .i64 id] 30)) := (((Below.refl _ _).alloc (Nat.le_refl _) _).alloc (by simp) _).alloc (by simp; omega) _
    have HBA := Lib.hid (((Blk.new w 32 #[.int .i64 kind, .string key, .slice A d.length c, .int .i64 ver, .int .i64 at_, .int .i64 n, .int .i64 id, .int .i64 big]).alloc (.cells #[.int .i64 0, .string ⟨#[]⟩, .slice none 0 0, .int .i64 0, .int .i64 0, .int .i64 0, .int .i64 0] 30)).alloc (.cells #[.int .i64 kind, .string key, .slice A d.length c, .int .i64 ver, .int .i64 at_, .int .i64 n, .int .i64 id] 30))
    have hz1 : (w.alloc (.cells #[.int .i64 kind, .string key, .slice A d.length c, .int .i64 ver, .int .i64 at_, .int .i64 n, .int .i64 id, .int .i64 big] 32)).heap.size = w.heap.size + 1 := by simp
    have hz2 : ((w.alloc (.cells #[.int .i64 kind, .string key, .slice A d.length c, .int .i64 ver, .int .i64 at_, .int .i64 n, .int .i64 id, .int .i64 big] 32)).alloc (.cells #[.int .i64 0, .string ⟨#[]⟩, .slice none 0 0, .int .i64 0, .int .i64 0, .int .i64 0, .int .i64 0] 30)).heap.size = w.heap.size + 1 + 1 := by simp
    have HBR := (Blk.new (w.alloc (.cells #[.int .i64 kind, .string key, .slice A d.length c, .int .i64 ver, .int .i64 at_, .int .i64 n, .int .i64 id, .int .i64 big] 32)) 30 #[.int .i64 0, .string ⟨#[]⟩, .slice none 0 0, .int .i64 0, .int .i64 0, .int .i64 0, .int .i64 0]).alloc (.cells #[.int .i64 kind, .string key, .slice A d.length c, .int .i64 ver, .int .i64 at_, .int .i64 n, .int .i64 id] 30)
    rw [hz1] at HBR
    have HBC := Blk.new ((w.alloc (.cells #[.int .i64 kind, .string key, .slice A d.length c, .int .i64 ver, .int .i64 at_, .int .i64 n, .int .i64 id, .int .i64 big] 32)).alloc (.cells #[.int .i64 0, .string ⟨#[]⟩, .slice none 0 0, .int .i64 0, .int .i64 0, .int .i64 0, .int .i64 0] 30)) 30 #[.int .i64 kind, .string key, .slice A d.length c, .int .i64 ver, .int .i64 at_, .int .i64 n, .int .i64 id]
    rw [hz2] at HBC
    have HBR := Lib.hid HBR
    have HBC := Lib.hid HBC
    clear hz1 hz2
    generalize ((w.alloc (.cells #[.int .i64 kind, .string key, .slice A d.length c, .int .i64 ver, .int .i64 at_, .int .i64 n, .int .i64 id, .int .i64 big] 32)).alloc (.cells #[.int .i64 0, .string ⟨#[]⟩, .slice none 0 0, .int .i64 0, .int .i64 0, .int .i64 0, .int .i64 0] 30)).alloc (.cells #[.int .i64 kind, .string key, .slice A d.length c, .int .i64 ver, .int .i64 at_, .int .i64 n, .int .i64 id] 30) = w3 at *
    have k7 : w3.cell? ⟨w.heap.size, 7, none⟩ = some (.int .i64 big) := HBA.out.cell 7
    obtain ⟨i, hi, hzz, hsz, hby⟩ := info_parts Try.infoU8s
    obtain ⟨w4, hrun, hown4, hg4⟩ := run_makeSlice_full (P := Try.prog) w3 w3.heap.size 28 5 i _ 1 Try.underlying28 hi hzz hsz .i64 .i64 m (by omega) (by rw [hby]; omega) (by unfold maxLen; omega) (Nat.le_refl _)
    have hb4 : Below w3.heap.size w3 w4 := (Below.refl _ _).grown hg4 (Nat.le_refl _) (by intro g hg; cases hg)
    have hmc : (madeCells (Value.int .u8 0).cells (m * 1)).toList = (List.replicate m (0 : UInt8)).map byteV := by
      have e : ∀ k, (madeCells (Value.int .u8 0).cells k).toList = List.replicate k (.int .u8 0) := fun k => by
        unfold madeCells
        rw [Array.toList_map, Array.toList_range]
        have e2 : (fun x => (Value.int .u8 0).cells[x % (Value.int .u8 0).cells.size]!) = fun _ : Nat => (Value.int .u8 0) := by
          funext x
          have : x % (Value.int .u8 0).cells.size = 0 := Nat.mod_one x
          rw [this]; rfl
        rw [e2, List.map_const', List.length_range]
      rw [e, Nat.mul_one, List.map_replicate]; rfl
    rw [hmc] at hown4
    have HBR4 := Lib.hid (HBR.out.below hb4 HBR.out.lt)
    have HBC4 := Lib.hid (HBC.out.below hb4 HBC.out.lt)
    have HD4 : Hid (Dat w4 gs (some ⟨w3.heap.size, 0, none⟩) m (List.replicate m 0)) := Lib.hid (Dat.of_own (base := w3.heap.size) (t := 5) (by rw [List.length_replicate]; exact hown4) (by have := hw3.size; omega))
    have HB4 := Lib.hid (hw3.trans (hb4.mono hw3.size))
    have hgl : w.heap.size + 1 + 1 < w3.heap.size := HBC.out.lt
    have c2 : w4.cell? ⟨w.heap.size + 1 + 1, 2, none⟩ = some (.slice A d.length c) := HBC4.out.cell 2
    have f2 : w4.frozen? ⟨w.heap.size + 1 + 1, 2, none⟩ = false := HBC4.out.frozen 2
    clear hi hzz hsz hby hown4 hg4 hb4 hmc HBR HBC HBA
    go_upto_region 4 with fail
    have HBC5 := Lib.hid (HBC4.out.set_ 2 (.slice (some ⟨w3.heap.size, 0, none⟩) m m))
    have HBR5 := Lib.hid (HBR4.out.far (p := ⟨w.heap.size + 1 + 1, 2, none⟩) (by simp) (.slice (some ⟨w3.heap.size, 0, none⟩) m m))
    have HD5 : Hid (Dat (w4.setCell ⟨w.heap.size + 1 + 1, 2, none⟩ (.slice (some ⟨w3.heap.size, 0, none⟩) m m)) gs (some ⟨w3.heap.size, 0, none⟩) m (List.replicate m 0)) := Lib.hid (HD4.out.far (g := w.heap.size + 1 + 1) (fun b off e hd hbg => by injection e with e; injection e with e; omega) (Keep.setCell (F := fun i => i = w.heap.size + 1 + 1) (Keep.refl _ _) (p := ⟨w.heap.size + 1 + 1, 2, none⟩) (.inl rfl) _))
    have HB5 := Lib.hid (HB4.out.setCell (p := ⟨w.heap.size + 1 + 1, 2, none⟩) (by show w.heap.size ≤ w.heap.size + 1 + 1; omega) (.slice (some ⟨w3.heap.size, 0, none⟩) m m))
    clear HBC4 HBR4 HD4 HB4 c2 f2 hrun k7
    generalize w4.setCell ⟨w.heap.size + 1 + 1, 2, none⟩ (.slice (some ⟨w3.heap.size, 0, none⟩) m m) = w5 at *
    generalize hg3 : w.heap.size + 1 + 1 = g3 at *
    generalize hg2 : w.heap.size + 1 = g2 at *
    have r0 : w5.cell? ⟨g3, 0, none⟩ = some (.int .i64 kind) := HBC5.out.cell 0
    have r1 : w5.cell? ⟨g3, 1, none⟩ = some (.string key) := HBC5.out.cell 1
    have r2 : w5.cell? ⟨g3, 2, none⟩ = some (.slice (some ⟨w3.heap.size, 0, none⟩) m m) := HBC5.out.cell 2
    have r3 : w5.cell? ⟨g3, 3, none⟩ = some (.int .i64 ver) := HBC5.out.cell 3
    have r4 : w5.cell? ⟨g3, 4, none⟩ = some (.int .i64 at_) := HBC5.out.cell 4
    have r5 : w5.cell? ⟨g3, 5, none⟩ = some (.int .i64 n) := HBC5.out.cell 5
    have r6 : w5.cell? ⟨g3, 6, none⟩ = some (.int .i64 id) := HBC5.out.cell 6
    have q0 : w5.cell? ⟨g2, 0, none⟩ = some (.int .i64 0) := HBR5.out.cell 0
    have p0 : w5.frozen? ⟨g2, 0, none⟩ = false := HBR5.out.frozen 0
    have q1 : w5.cell? ⟨g2, 1, none⟩ = some (.string ⟨#[]⟩) := HBR5.out.cell 1
    have p1 : w5.frozen? ⟨g2, 1, none⟩ = false := HBR5.out.frozen 1
    have q2 : w5.cell? ⟨g2, 2, none⟩ = some (.slice none 0 0) := HBR5.out.cell 2
    have p2 : w5.frozen? ⟨g2, 2, none⟩ = false := HBR5.out.frozen 2
    have q3 : w5.cell? ⟨g2, 3, none⟩ = some (.int .i64 0) := HBR5.out.cell 3
    have p3 : w5.frozen? ⟨g2, 3, none⟩ = false := HBR5.out.frozen 3
    have q4 : w5.cell? ⟨g2, 4, none⟩ = some (.int .i64 0) := HBR5.out.cell 4
    have p4 : w5.frozen? ⟨g2, 4, none⟩ = false := HBR5.out.frozen 4
    have q5 : w5.cell? ⟨g2, 5, none⟩ = some (.int .i64 0) := HBR5.out.cell 5
    have p5 : w5.frozen? ⟨g2, 5, none⟩ = false := HBR5.out.frozen 5
    have q6 : w5.cell? ⟨g2, 6, none⟩ = some (.int .i64 0) := HBR5.out.cell 6
    have p6 : w5.frozen? ⟨g2, 6, none⟩ = false := HBR5.out.frozen 6
    go_wp2
    have hw := set7_blk (v0 := .int .i64 kind) (v1 := .string key) (v2 := .slice (some ⟨w3.heap.size, 0, none⟩) m m) (v3 := .int .i64 ver) (v4 := .int .i64 at_) (v5 := .int .i64 n) (v6 := .int .i64 id) HBR5.out
    have hk := set7_keep (w := w5) (g := g2) (v0 := .int .i64 kind) (v1 := .string key) (v2 := .slice (some ⟨w3.heap.size, 0, none⟩) m m) (v3 := .int .i64 ver) (v4 := .int .i64 at_) (v5 := .int .i64 n) (v6 := .int .i64 id)
    have hD7 := HD5.out.far (g := g2) (fun b off e hd hbg => by injection e with e; injection e with e; omega) hk
    have hB7 := HB5.out.trans (hk.below (B := w.heap.size) HB5.out.size (fun i e => by omega))
    unfold set7 at hw hD7 hB7
    refine bodyPost_ret (results_cell_row rfl _ _ g2 30 #[.int .i64 kind, .string key, .slice (some ⟨w3.heap.size, 0, none⟩) m m, .int .i64 ver, .int .i64 at_, .int .i64 n, .int .i64 id] (0, 0) _ rfl hw Try.underlying30 rfl (by kernel_rfl)) rfl ?_
    exact ⟨some ⟨w3.heap.size, 0, none⟩, m, by rw [List.length_replicate], hD7, hB7⟩
  · have d1 := dcf hb
    rw [if_neg hb]
    go_enter Try.func13, Try.ntmps13
    go_upto_region 4 with fail
    have HB5 : Hid (Below w.heap.size w (((w.alloc (.cells #[.int .i64 kind, .string key, .slice A d.length c, .int .i64 ver, .int .i64 at_, .int .i64 n, .int .i64 id, .int .i64 big] 32)).alloc (.cells #[.int .i64 0, .string ⟨#[]⟩, .slice none 0 0, .int .i64 0, .int .i64 0, .int .i64 0, .int .i64 0] 30)).alloc (.cells #[.int .i64 kind, .string key, .slice A d.length c, .int .i64 ver, .int .i64 at_, .int .i64 n, .int .i64 id] 30))) := Lib.hid ((((Below.refl _ _).alloc (Nat.le_refl _) _).alloc (by simp) _).alloc (by simp; omega) _)
    have hz1 : (w.alloc (.cells #[.int .i64 kind, .string key, .slice A d.length c, .int .i64 ver, .int .i64 at_, .int .i64 n, .int .i64 id, .int .i64 big] 32)).heap.size = w.heap.size + 1 := by simp
    have hz2 : ((w.alloc (.cells #[.int .i64 kind, .string key, .slice A d.length c, .int .i64 ver, .int .i64 at_, .int .i64 n, .int .i64 id, .int .i64 big] 32)).alloc (.cells #[.int .i64 0, .string ⟨#[]⟩, .slice none 0 0, .int .i64 0, .int .i64 0, .int .i64 0, .int .i64 0] 30)).heap.size = w.heap.size + 1 + 1 := by simp
    have HBR := (Blk.new (w.alloc (.cells #[.int .i64 kind, .string key, .slice A d.length c, .int .i64 ver, .int .i64 at_, .int .i64 n, .int .i64 id, .int .i64 big] 32)) 30 #[.int .i64 0, .string ⟨#[]⟩, .slice none 0 0, .int .i64 0, .int .i64 0, .int .i64 0, .int .i64 0]).alloc (.cells #[.int .i64 kind, .string key, .slice A d.length c, .int .i64 ver, .int .i64 at_, .int .i64 n, .int .i64 id] 30)
    rw [hz1] at HBR
    have HBC := Blk.new ((w.alloc (.cells #[.int .i64 kind, .string key, .slice A d.length c, .int .i64 ver, .int .i64 at_, .int .i64 n, .int .i64 id, .int .i64 big] 32)).alloc (.cells #[.int .i64 0, .string ⟨#[]⟩, .slice none 0 0, .int .i64 0, .int .i64 0, .int .i64 0, .int .i64 0] 30)) 30 #[.int .i64 kind, .string key, .slice A d.length c, .int .i64 ver, .int .i64 at_, .int .i64 n, .int .i64 id]
    rw [hz2] at HBC
    have HBR5 := Lib.hid HBR
    have HBC5 := Lib.hid HBC
    have HD5 := Lib.hid (HD.out.keep (F := fun _ => False) (Keep.of_below ((((Below.refl w.heap.size w).alloc (Nat.le_refl _) (.cells #[.int .i64 kind, .string key, .slice A d.length c, .int .i64 ver, .int .i64 at_, .int .i64 n, .int .i64 id, .int .i64 big] 32)).alloc (by simp) (.cells #[.int .i64 0, .string ⟨#[]⟩, .slice none 0 0, .int .i64 0, .int .i64 0, .int .i64 0, .int .i64 0] 30)).alloc (by simp; omega) (.cells #[.int .i64 kind, .string key, .slice A d.length c, .int .i64 ver, .int .i64 at_, .int .i64 n, .int .i64 id] 30))) (fun _ _ _ _ _ _ h => h))
    have hoff : Off (w.heap.size + 1) A d := HD.out.off (by omega)
    clear hz1 hz2 HBR HBC
    generalize ((w.alloc (.cells #[.int .i64 kind, .string key, .slice A d.length c, .int .i64 ver, .int .i64 at_, .int .i64 n, .int .i64 id, .int .i64 big] 32)).alloc (.cells #[.int .i64 0, .string ⟨#[]⟩, .slice none 0 0, .int .i64 0, .int .i64 0, .int .i64 0, .int .i64 0] 30)).alloc (.cells #[.int .i64 kind, .string key, .slice A d.length c, .int .i64 ver, .int .i64 at_, .int .i64 n, .int .i64 id] 30) = w5 at *
    generalize hg3 : w.heap.size + 1 + 1 = g3 at *
    generalize hg2 : w.heap.size + 1 = g2 at *
    have r0 : w5.cell? ⟨g3, 0, none⟩ = some (.int .i64 kind) := HBC5.out.cell 0
    have r1 : w5.cell? ⟨g3, 1, none⟩ = some (.string key) := HBC5.out.cell 1
    have r2 : w5.cell? ⟨g3, 2, none⟩ = some (.slice A d.length c) := HBC5.out.cell 2
    have r3 : w5.cell? ⟨g3, 3, none⟩ = some (.int .i64 ver) := HBC5.out.cell 3
    have r4 : w5.cell? ⟨g3, 4, none⟩ = some (.int .i64 at_) := HBC5.out.cell 4
    have r5 : w5.cell? ⟨g3, 5, none⟩ = some (.int .i64 n) := HBC5.out.cell 5
    have r6 : w5.cell? ⟨g3, 6, none⟩ = some (.int .i64 id) := HBC5.out.cell 6
    have q0 : w5.cell? ⟨g2, 0, none⟩ = some (.int .i64 0) := HBR5.out.cell 0
    have p0 : w5.frozen? ⟨g2, 0, none⟩ = false := HBR5.out.frozen 0
    have q1 : w5.cell? ⟨g2, 1, none⟩ = some (.string ⟨#[]⟩) := HBR5.out.cell 1
    have p1 : w5.frozen? ⟨g2, 1, none⟩ = false := HBR5.out.frozen 1
    have q2 : w5.cell? ⟨g2, 2, none⟩ = some (.slice none 0 0) := HBR5.out.cell 2
    have p2 : w5.frozen? ⟨g2, 2, none⟩ = false := HBR5.out.frozen 2
    have q3 : w5.cell? ⟨g2, 3, none⟩ = some (.int .i64 0) := HBR5.out.cell 3
    have p3 : w5.frozen? ⟨g2, 3, none⟩ = false := HBR5.out.frozen 3
    have q4 : w5.cell? ⟨g2, 4, none⟩ = some (.int .i64 0) := HBR5.out.cell 4
    have p4 : w5.frozen? ⟨g2, 4, none⟩ = false := HBR5.out.frozen 4
    have q5 : w5.cell? ⟨g2, 5, none⟩ = some (.int .i64 0) := HBR5.out.cell 5
    have p5 : w5.frozen? ⟨g2, 5, none⟩ = false := HBR5.out.frozen 5
    have q6 : w5.cell? ⟨g2, 6, none⟩ = some (.int .i64 0) := HBR5.out.cell 6
    have p6 : w5.frozen? ⟨g2, 6, none⟩ = false := HBR5.out.frozen 6
    go_wp2
    have hw := set7_blk (v0 := .int .i64 kind) (v1 := .string key) (v2 := .slice A d.length c) (v3 := .int .i64 ver) (v4 := .int .i64 at_) (v5 := .int .i64 n) (v6 := .int .i64 id) HBR5.out
    have hk := set7_keep (w := w5) (g := g2) (v0 := .int .i64 kind) (v1 := .string key) (v2 := .slice A d.length c) (v3 := .int .i64 ver) (v4 := .int .i64 at_) (v5 := .int .i64 n) (v6 := .int .i64 id)
    have hD7 := HD5.out.far (g := g2) (hoff) hk
    have hB7 := HB5.out.trans (hk.below (B := w.heap.size) HB5.out.size (fun i e => by omega))
    unfold set7 at hw hD7 hB7
    refine bodyPost_ret (results_cell_row rfl _ _ g2 30 #[.int .i64 kind, .string key, .slice A d.length c, .int .i64 ver, .int .i64 at_, .int .i64 n, .int .i64 id] (0, 0) _ rfl hw Try.underlying30 rfl (by kernel_rfl)) rfl ?_
    exact ⟨A, c, rfl, hD7, hB7⟩
end St
end Go.Proofs.Ytlljpjehalodfaa
