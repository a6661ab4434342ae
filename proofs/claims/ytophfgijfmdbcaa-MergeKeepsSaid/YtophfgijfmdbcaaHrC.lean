/- The heap of heads: Pop. -/
import Derived.Test.YtophfgijfmdbcaaProg
import Derived.Test.YtophfgijfmdbcaaHrB
import Derived.Laws.ResultCell
import Derived.Deep.Cut
namespace Go.Proofs.Ytophfgijfmdbcaa.Hr
open Go.RowKit Go.Proofs.Ytophfgijfmdbcaa Go.Proofs.Ytophfgijfmdbcaa.So Go.Proofs.Ytophfgijfmdbcaa.Hp

def ten (w : World) (k : Nat) (v0 v1 v2 v3 v4 v5 v6 v7 v8 v9 : Value) : World := (((((((((w.setCell ⟨k, 0, none⟩ v0).setCell ⟨k, 1, none⟩ v1).setCell ⟨k, 2, none⟩ v2).setCell ⟨k, 3, none⟩ v3).setCell ⟨k, 4, none⟩ v4).setCell ⟨k, 5, none⟩ v5).setCell ⟨k, 6, none⟩ v6).setCell ⟨k, 7, none⟩ v7).setCell ⟨k, 8, none⟩ v8).setCell ⟨k, 9, none⟩ v9
theorem only_ten (w : World) (k : Nat) (v0 v1 v2 v3 v4 v5 v6 v7 v8 v9 : Value) : Only k w (ten w k v0 v1 v2 v3 v4 v5 v6 v7 v8 v9) :=
  ((((((((((Only.refl k w).setCell (p := ⟨k, 0, none⟩) (.inl rfl) v0).setCell (p := ⟨k, 1, none⟩) (.inl rfl) v1).setCell (p := ⟨k, 2, none⟩) (.inl rfl) v2).setCell (p := ⟨k, 3, none⟩) (.inl rfl) v3).setCell (p := ⟨k, 4, none⟩) (.inl rfl) v4).setCell (p := ⟨k, 5, none⟩) (.inl rfl) v5).setCell (p := ⟨k, 6, none⟩) (.inl rfl) v6).setCell (p := ⟨k, 7, none⟩) (.inl rfl) v7).setCell (p := ⟨k, 8, none⟩) (.inl rfl) v8).setCell (p := ⟨k, 9, none⟩) (.inl rfl) v9
theorem blk_ten {w : World} {k : Nat} {t : TypeId} {z0 z1 z2 z3 z4 z5 z6 z7 z8 z9 : Value} (h : Blk w k t #[z0, z1, z2, z3, z4, z5, z6, z7, z8, z9]) (v0 v1 v2 v3 v4 v5 v6 v7 v8 v9 : Value) : Blk (ten w k v0 v1 v2 v3 v4 v5 v6 v7 v8 v9) k t #[v0, v1, v2, v3, v4, v5, v6, v7, v8, v9] := by
  have h' := ((((((((((h.set_ 0 v0).set_ 1 v1).set_ 2 v2).set_ 3 v3).set_ 4 v4).set_ 5 v5).set_ 6 v6).set_ 7 v7).set_ 8 v8).set_ 9 v9)
  simp only [List.setIfInBounds_toArray, List.set_cons_zero, List.set_cons_succ] at h'
  exact h'
theorem ten_size (w : World) (k : Nat) (v0 v1 v2 v3 v4 v5 v6 v7 v8 v9 : Value) : (ten w k v0 v1 v2 v3 v4 v5 v6 v7 v8 v9).heap.size = w.heap.size := by
  simp [ten]
theorem ten_at {w : World} {k : Nat} {t : TypeId} {z0 z1 z2 z3 z4 z5 z6 z7 z8 z9 : Value} (h : Blk w k t #[z0, z1, z2, z3, z4, z5, z6, z7, z8, z9]) :
    (w.cell? ⟨k, 0, none⟩ = some z0 ∧ w.cell? ⟨k, 1, none⟩ = some z1 ∧ w.cell? ⟨k, 2, none⟩ = some z2 ∧ w.cell? ⟨k, 3, none⟩ = some z3 ∧ w.cell? ⟨k, 4, none⟩ = some z4 ∧ w.cell? ⟨k, 5, none⟩ = some z5 ∧ w.cell? ⟨k, 6, none⟩ = some z6 ∧ w.cell? ⟨k, 7, none⟩ = some z7 ∧ w.cell? ⟨k, 8, none⟩ = some z8 ∧ w.cell? ⟨k, 9, none⟩ = some z9) ∧
    (w.frozen? ⟨k, 0, none⟩ = false ∧ w.frozen? ⟨k, 1, none⟩ = false ∧ w.frozen? ⟨k, 2, none⟩ = false ∧ w.frozen? ⟨k, 3, none⟩ = false ∧ w.frozen? ⟨k, 4, none⟩ = false ∧ w.frozen? ⟨k, 5, none⟩ = false ∧ w.frozen? ⟨k, 6, none⟩ = false ∧ w.frozen? ⟨k, 7, none⟩ = false ∧ w.frozen? ⟨k, 8, none⟩ = false ∧ w.frozen? ⟨k, 9, none⟩ = false) :=
  ⟨⟨h.cell 0, h.cell 1, h.cell 2, h.cell 3, h.cell 4, h.cell 5, h.cell 6, h.cell 7, h.cell 8, h.cell 9⟩, ⟨h.frozen 0, h.frozen 1, h.frozen 2, h.frozen 3, h.frozen 4, h.frozen 5, h.frozen 6, h.frozen 7, h.frozen 8, h.frozen 9⟩⟩
/-- A walk goes on from any world of which enough is known. -/
theorem wp_at {P : Program} {co : Code} {Q : Exit → Act → World → Prop} {a : Act} {w : World} (Φ : World → Prop) (h : Φ w) (k : ∀ w1, Φ w1 → co.wp P Q a w1) : co.wp P Q a w := k w h
theorem results_hd {P : Program} {fn : Func} {p u : Tmp} {ty : TypeId} (h : fn.results = #[.cell p ty, .tmp u]) (tmps : Array Value) (w : World) (g : Nat) (t : TypeId) (cs : Array Value) (d : TypeDesc) (q : Value)
    (hp : tmps.getD p undef = .pointer (some ⟨g, 0, none⟩)) (hq : tmps.getD u undef = q) (hg : Blk w g t cs)
    (hu : P.underlying ty = some d) (hd : (match d with | .struct _ | .array _ _ => true | _ => false) = true) (hi : (P.info? ty).map (·.size) = some cs.size) :
    (results fn tmps).run P w = .ok (.tuple #[.agg cs, q]) w := by
  rw [results_cell_tmp h, hp, hq]
  have : (asAddr (.pointer (some ⟨g, 0, none⟩))).run P w = .ok ⟨g, 0, none⟩ w := by simp [asAddr]
  rw [this, Result.andThen_ok, run_loadVar_row w g t ty cs (0, 0) d hg hu hd hi, Result.andThen_ok]
theorem HeapAt.only {α : Type} {e : Enc α} {TH : TypeId} {w w' : World} {B gh g c k : Nat} {fv : Value} {d : List α} (h : HeapAt e TH w B gh fv (some ⟨g, 0, none⟩) c d) (ho : Only k w w') (h1 : gh ≠ k) (h2 : g ≠ k) : HeapAt e TH w' B gh fv (some ⟨g, 0, none⟩) c d :=
  ⟨ho.blk h.blk h1, h.low, own_not' h.own ho (by show some g ≠ some k; simpa using h2)⟩

theorem kids {k i : Nat} (h1 : k = 2 * i + 1) {j : Nat} (j0 : 0 < j) (hj : (j - 1) / 2 = i) : j = k ∨ j = k + 1 := by omega
theorem cut_take {d : List Hd} {m : Nat} (hm : d.length = m + 1) : cutLast d = (d.set 0 (gt d m)).take m := by
  unfold cutLast
  rw [hm, Nat.add_sub_cancel]

set_option maxRecDepth 100000 in
set_option maxHeartbeats 12800000 in
theorem pop_calls (K : World → Prop) (B gh gc c : Nat) (FR : Array Value) (lt : Hd → Hd → Bool) (hO : Swo lt) (hA : Asks K B gc FR lt) (w : World) (A : Option Addr) (dd : List Hd) (hK : K w) (h : HI w B gh (.func (.func gc) #[] FR) A c dd) (hd : Heap lt dd) (hn : dd.length ≤ 1099511627776) (hp : 0 < dd.length) :
    Calls Try.prog 52 #[.pointer (some ⟨gh, 0, none⟩)] w fun e w' => e = .returned (.tuple #[vH (gt dd 0), .bool true]) ∧ HeapR B gh (.func (.func gc) #[] FR) lt (ownB A) w.heap.size (cutLast dd) w' ∧ Below B w w' ∧ Fr gh (ownB A) w w' := by
  have hlt := h.blk.lt
  have hlow := h.low
  obtain ⟨g, rfl, hgB, hgl, hcap⟩ := own_at h.own hp
  have hgne : gh ≠ g := h.ne (by decide)
  have HR : Hid (RowG encH w B g c dd) := Lib.hid h.row
  have hz := fun j v (hv : (encH.cs (gt dd 0))[j]? = some v) => HR.out.cell okH (i := 0) hp (j := j) (v := v) hv
  obtain ⟨x0, hx0⟩ : ∃ x0, x0 = gt dd 0 := ⟨_, rfl⟩
  rw [← hx0] at hz ⊢
  have z0 := hz 0 _ rfl
  have z1 := hz 1 _ rfl
  have z2 := hz 2 _ rfl
  have z3 := hz 3 _ rfl
  have z4 := hz 4 _ rfl
  have z5 := hz 5 _ rfl
  have z6 := hz 6 _ rfl
  have z7 := hz 7 _ rfl
  have z8 := hz 8 _ rfl
  have z9 := hz 9 _ rfl
  simp only [Nat.zero_mul, Nat.zero_add] at z0 z1 z2 z3 z4 z5 z6 z7 z8 z9
  clear hz
  clear hx0
  obtain ⟨n, hn0⟩ : ∃ n, n = dd.length := ⟨_, rfl⟩
  obtain ⟨m, hm⟩ : ∃ m, n = m + 1 := ⟨n - 1, by omega⟩
  have HBK : Hid (Blk w gh 100 #[.slice (some ⟨g, 0, none⟩) n c, .func (.func gc) #[] FR]) := Lib.hid (by rw [hn0]; exact h.blk)
  have y0 : w.cell? ⟨gh, 0, none⟩ = some (.slice (some ⟨g, 0, none⟩) n c) := (HBK.out.cell 0).trans rfl
  have HCUT : Hid (cutLast dd = (dd.set 0 (gt dd m)).take m ∧ dd.length = m + 1) := Lib.hid ⟨cut_take (by omega), by omega⟩
  have HDN : Hid (Down lt (cutLast dd) 0) := Lib.hid (Down.start hd)
  have HA := Lib.hid hA
  have HO := Lib.hid hO
  have HK := Lib.hid hK
  have hn1 : n ≤ 1099511627776 := by omega
  have hm1 : m < n := by omega
  have hm2 : n ≤ m + 1 := by omega
  have hd1 : n ≤ dd.length := by omega
  have hd2 : dd.length ≤ n := by omega
  have e0 : ((n : Int) == 0) = false := eqf (by omega)
  have e1 : (n : Int) - 1 = (m : Int) := by omega
  have E1 := Lib.hid e1
  clear h hd hA hO hK hn0 hm hn hp e1
  go_enter Try.func52, Try.ntmps52
  go_upto_region 4 with fail
  refine wp_at (fun w1 => Below w.heap.size w w1 ∧ w1.heap.size = w.heap.size + 1 ∧ Blk w1 w.heap.size 86 #[.int .i64 x0.x.kind, .int .i64 x0.x.time, .slice x0.x.A x0.x.labs.length x0.x.cp, .string x0.x.text, .int .i64 x0.x.value, .bool x0.x.null, .int .i64 x0.x.maker, .int .i64 x0.x.seq, .int .i64 x0.x.place, .slice x0.A x0.rest.length x0.cp]) ⟨?_, ?_, ?_⟩ ?_
  · exact (Below.refl _ w).alloc (Nat.le_refl _) _
  · simp
  · exact Blk.new w _ _
  rintro w1 ⟨hb01, hs01, hbx⟩
  have HBX := Lib.hid hbx
  have HB01 := Lib.hid hb01
  have HBK : Hid (Blk w1 gh 100 #[.slice (some ⟨g, 0, none⟩) n c, .func (.func gc) #[] FR]) := Lib.hid (HBK.out.below hb01 hlt)
  have HR : Hid (RowG encH w1 B g c dd) := Lib.hid (HR.out.below hb01)
  have hgx : w.heap.size ≠ g := by omega
  have hgxh : w.heap.size ≠ gh := by omega
  have y1 : w1.cell? ⟨gh, 0, none⟩ = some (.slice (some ⟨g, 0, none⟩) n c) := (HBK.out.cell 0).trans rfl
  clear hbx hb01 z0 z1 z2 z3 z4 z5 z6 z7 z8 z9 y0
  go_wp2_with fail
  rw [E1.out]
  have hl0 := fun W (hW : Only g w1 W) => load_l W (((hW.blk HBK.out hgne).cell 0).trans rfl : W.cell? ⟨gh, 0, none⟩ = some (.slice (some ⟨g, 0, none⟩) n c))
  have fa0 := field0 gh
  obtain ⟨cp, hcp⟩ : ∃ cp, cp = c := ⟨_, rfl⟩
  subst hcp
  obtain ⟨d, hdd⟩ : ∃ d, d = dd := ⟨_, rfl⟩
  subst hdd
  refine wp_put (by kernel_rfl) (by kernel_rfl) encH okH _ g _ _ (0) (m) (by omega) (by omega) HR.out
    (fun q_ => (#[.pointer (some ⟨gh, 0, none⟩), .pointer (some ⟨gh, 0, none⟩), .pointer (some ⟨gh, 0, none⟩), .slice (some ⟨g, 0, none⟩) n cp, .pointer (some ⟨gh, 0, none⟩), .pointer (some ⟨gh, 0, none⟩), .pointer (some ⟨gh, 0, none⟩), .slice (some ⟨g, 0, none⟩) n cp, .int .i64 ((m : Int)), .pointer (some ⟨g, (m) * encH.sz, none⟩), encH.vf (gt d (m)), .pointer (some ⟨g, (0) * encH.sz, none⟩), undef] : Array Value).getD q_ undef) 10 12 9 11 39 41 40 rfl rfl rfl ⟨_, rfl, rfl⟩ ⟨_, rfl, rfl, rfl⟩ (by exact ⟨rfl, rfl, rfl⟩) (by kernel_rfl) (by decide) ?_ [(some 30, .pointer (some ⟨gh, 0, none⟩)), (some 31, .pointer (some ⟨gh, 0, none⟩)), (some 32, .pointer (some ⟨gh, 0, none⟩)), (some 33, .slice (some ⟨g, 0, none⟩) n cp), (some 34, .pointer (some ⟨gh, 0, none⟩)), (some 35, .pointer (some ⟨gh, 0, none⟩)), (some 36, .pointer (some ⟨gh, 0, none⟩)), (some 37, .slice (some ⟨g, 0, none⟩) n cp), (some 38, .int .i64 ((m : Int))), (some 39, .pointer (some ⟨g, (m) * encH.sz, none⟩)), (some 40, encH.vf (gt d (m))), (some 41, .pointer (some ⟨g, (0) * encH.sz, none⟩)), (none, undef)] rfl ?_ (by decide)
  · intro q_ o ho k1 k2 b W hW hev hout
    rcases q_ with _ | _ | _ | _ | _ | _ | _ | _ | _ | _ | _ | _ | _ | q_
    · cases ho
      exact run_move W (.tmp 0) rfl ((hout 0 (by kernel_rfl)).trans rfl)
    · cases ho
      exact run_nil W (.tmp 30) rfl (hev 0 30 (by kernel_rfl) (by decide) rfl)
    · cases ho
      exact run_fa W (.tmp 31) rfl (hev 1 31 (by kernel_rfl) (by decide) rfl) fa0
    · cases ho
      exact run_load (.tmp 32) rfl (hev 2 32 (by kernel_rfl) (by decide) rfl) (hl0 W hW)
    · cases ho
      exact run_move W (.tmp 0) rfl ((hout 0 (by kernel_rfl)).trans rfl)
    · cases ho
      exact run_nil W (.tmp 34) rfl (hev 4 34 (by kernel_rfl) (by decide) rfl)
    · cases ho
      exact run_fa W (.tmp 35) rfl (hev 5 35 (by kernel_rfl) (by decide) rfl) fa0
    · cases ho
      exact run_load (.tmp 36) rfl (hev 6 36 (by kernel_rfl) (by decide) rfl) (hl0 W hW)
    · cases ho
      exact run_move W (.tmp 4) rfl ((hout 4 (by kernel_rfl)).trans rfl)
    · cases ho
      exact run_idxv W (.tmp 37) (.tmp 38) rfl (hev 7 37 (by kernel_rfl) (by decide) rfl) (hev 8 38 (by kernel_rfl) (by decide) rfl) (idx_at W (by omega) (by omega))
    · exact absurd rfl k1
    · cases ho
      exact run_idxv W (.tmp 33) (.const (.int .i64 0)) rfl (hev 3 33 (by kernel_rfl) (by decide) rfl) rfl (idx_at W (by omega) (by omega))
    · exact absurd rfl k2
    · cases ho
  · intro w3 hrow honly
    have hs3 := honly.size
    have HBK3 := Lib.hid (honly.blk HBK.out hgne)
    have y3 : w3.cell? ⟨gh, 0, none⟩ = some (.slice (some ⟨g, 0, none⟩) n cp) := (HBK3.out.cell 0).trans rfl
    have f3 := HBK3.out.frozen 0
    have HB3 : Hid (Below B w w3) := Lib.hid ((HB01.out.mono (by omega)).trans (honly.below hgB (by omega)))
    have HBX3 := Lib.hid (honly.blk HBX.out hgx)
    have HFR3 : Hid (Fr gh (some g) w w3) := Lib.hid (((Fr.refl gh (some g) w).below HB01.out).only honly (.inr (.inl rfl)))
    have HROW := Lib.hid hrow
    simp only [putP, Exit.then, Act.put, List.setIfInBounds_toArray, List.set_cons_zero, List.set_cons_succ]
    clear hl0 fa0 hrow honly
    have hh3 : gh < w3.heap.size := by omega
    go_wp2
    have HH4 : Hid (HI (w3.setCell ⟨gh, 0, none⟩ (.slice (some ⟨g, 0, none⟩) m cp)) B gh (.func (.func gc) #[] FR) (some ⟨g, 0, none⟩) cp (cutLast d) ∧ (cutLast d).length = m) := Lib.hid (by
      have el : (cutLast d).length = m := by rw [cutLast_len, HCUT.out.2, Nat.add_sub_cancel]
      refine ⟨⟨?_, hlow, ?_⟩, el⟩
      · rw [el]
        have := HBK3.out.set_ 0 (.slice (some ⟨g, 0, none⟩) m cp)
        simp only [List.setIfInBounds_toArray, List.set_cons_zero, List.set_cons_succ] at this
        exact this
      · rw [el, HCUT.out.1, ← flatMap_take okH.len]
        have h1 := own_prefix HROW.out (k := m) (by rw [List.length_set]; omega)
        exact own_not' h1 ((Only.refl gh w3).setCell (p := ⟨gh, 0, none⟩) (.inl rfl) (.slice (some ⟨g, 0, none⟩) m cp)) (by show some g ≠ some gh; simp; exact fun e => hgne e.symm))
    have HB4 : Hid (Below B w (w3.setCell ⟨gh, 0, none⟩ (.slice (some ⟨g, 0, none⟩) m cp))) := Lib.hid (HB3.out.setCell hlow _)
    have HK4 : Hid (K (w3.setCell ⟨gh, 0, none⟩ (.slice (some ⟨g, 0, none⟩) m cp))) := Lib.hid (HA.out.keep _ _ HK.out HB4.out)
    have HB44 : Hid (Below B (w3.setCell ⟨gh, 0, none⟩ (.slice (some ⟨g, 0, none⟩) m cp)) (w3.setCell ⟨gh, 0, none⟩ (.slice (some ⟨g, 0, none⟩) m cp)) ∧ Fr gh (some g) w (w3.setCell ⟨gh, 0, none⟩ (.slice (some ⟨g, 0, none⟩) m cp))) := Lib.hid ⟨Below.refl _ _, HFR3.out.only ((Only.refl gh w3).setCell (p := ⟨gh, 0, none⟩) (.inl rfl) _) (.inl rfl)⟩
    have HBX4 := Lib.hid (HBX3.out.far (p := ⟨gh, 0, none⟩) hgxh (.slice (some ⟨g, 0, none⟩) m cp))
    have HLT4 : Hid (w.heap.size < (w3.setCell ⟨gh, 0, none⟩ (.slice (some ⟨g, 0, none⟩) m cp)).heap.size) := Lib.hid HBX4.out.lt
    generalize w3.setCell ⟨gh, 0, none⟩ (.slice (some ⟨g, 0, none⟩) m cp) = w4 at *
    clear y3 f3 y1 hd1 hd2 HBX HBX3
    obtain ⟨d4, hd4⟩ : ∃ d4, d4 = cutLast d := ⟨_, rfl⟩
    have HD4 := Lib.hid hd4
    rw [← hd4] at HH4 HDN
    clear hd4 HCUT HROW HR HBK HBK3 hs3 hh3
    go_loopw [5] (fun vi wx => ∃ (i : Nat) (d : List Hd), i ≤ m ∧ m ≤ d.length ∧ d.length ≤ m ∧ vi = .int .i64 (i : Int) ∧ Hid (HI wx B gh (.func (.func gc) #[] FR) (some ⟨g, 0, none⟩) cp d) ∧ Hid (Down lt d i ∧ d.Perm d4) ∧ Hid (Below B w4 wx ∧ Fr gh (some g) w wx) ∧ Hid (Blk wx w.heap.size 86 #[.int .i64 x0.x.kind, .int .i64 x0.x.time, .slice x0.x.A x0.x.labs.length x0.x.cp, .string x0.x.text, .int .i64 x0.x.value, .bool x0.x.null, .int .i64 x0.x.maker, .int .i64 x0.x.seq, .int .i64 x0.x.place, .slice x0.A x0.rest.length x0.cp])) (fun vi _ => m - (intOf vi).toNat)
    case atStart => exact ⟨0, d4, Nat.zero_le _, by rw [HH4.out.2]; exact Nat.le_refl _, by rw [HH4.out.2]; exact Nat.le_refl _, rfl, Lib.hid HH4.out.1, Lib.hid ⟨HDN.out, List.Perm.refl _⟩, HB44, HBX4⟩
    case round =>
      clear HH4 HDN
      have HDD : Hid (d4 = cutLast d) := HD4
      obtain ⟨dz, hdz⟩ : ∃ dz, dz = d := ⟨_, rfl⟩
      subst hdz
      obtain ⟨i, d, hin, hd1, hd2, rfl, HH2, HU, HB, HBX⟩ := hrel
      have hxlt := HBX.out.lt
      have HED : Hid (d.length = m) := Lib.hid (by omega)
      have HF : Hid (∀ Wm W, Below wr.heap.size wr Wm → Only w.heap.size Wm W → (∀ j, 0 < j → j < d.length → (j - 1) / 2 = i → lt (gt d j) (gt d i) = false) → HeapR B gh (.func (.func gc) #[] FR) lt (some g) w.heap.size (cutLast dz) W) := Lib.hid fun Wm W hW hO hk => ⟨_, _, d, HeapAt.only (HH2.out.below hW) hO (Ne.symm hgxh) (Ne.symm hgx), HU.out.1.stop hk, by rw [← HDD.out]; exact HU.out.2, .inl rfl⟩
      by_cases hkm : 2 * i + 1 < m
      · obtain ⟨k, hk⟩ : ∃ k, k = 2 * i + 1 := ⟨_, rfl⟩
        have HKE := Lib.hid hk
        have hk1 : k < m := by omega
        have hik : i < k := by omega
        have hk0 : 0 < k := by omega
        have ek : 2 * (i : Int) + 1 = (k : Int) := by omega
        have EK := Lib.hid ek
        have HRr : Hid (RowG encH wr B g cp d) := Lib.hid HH2.out.row
        have hblk := HH2.out.blk
        rw [HED.out] at hblk
        have HBK := Lib.hid hblk
        have hglt := hblk.lt
        have hglt2 := HRr.out.lt.2
        have fa0 := field0 gh
        have fa1 := field1 gh
        have Hent : Hid (∀ args W, (callFunc gc args).run Try.prog W = .ok (.enter gc args) W) := Lib.hid HA.out.enter
        have HKW : Hid (∀ W, Below B wr W → K W) := Lib.hid fun W hW => HA.out.keep _ _ (HA.out.keep _ _ HK4.out HB.out.1) hW
        clear hk ek hblk
        have hl0 := fun W (hW : Below wr.heap.size wr W) => load_l W (((HBK.out.below hW hglt).cell 0).trans rfl : W.cell? ⟨gh, 0, none⟩ = some (.slice (some ⟨g, 0, none⟩) m cp))
        have hl1 := fun W (hW : Below wr.heap.size wr W) => load_f W (((HBK.out.below hW hglt).cell 1).trans rfl : W.cell? ⟨gh, 1, none⟩ = some (.func (.func gc) #[] FR))
        have hld_k := fun W (hW : Below wr.heap.size wr W) => okH.ld W g (k * encH.sz) (gt d k) fun j v hv => (HRr.out.below hW).cell okH (by omega) hv
        go_wp2_with fail
        rw [EK.out]
        by_cases hk2 : k + 1 < m
        · have hld_k1 := fun W (hW : Below wr.heap.size wr W) => okH.ld W g ((k + 1) * encH.sz) (gt d (k + 1)) fun j v hv => (HRr.out.below hW).cell okH (by omega) hv
          have Hask : Hid (∀ W, Below wr.heap.size wr W → Calls Try.prog gc (#[encH.vf (gt d (k + 1)), encH.vf (gt d k)] ++ FR) W fun e W' => e = .returned (.bool (lt (gt d (k + 1)) (gt d k))) ∧ Below W.heap.size W W') := Lib.hid fun W hW => HA.out.call _ _ W (HKW.out _ (hW.mono (by omega)))
          refine wp_ask (by kernel_rfl) (by kernel_rfl) (fun q_ => (#[.int .i64 ((k : Int)), .int .i64 ((k : Int) + 1), .int .i64 ((m : Int)), .bool (true), .bool (true), .pointer (some ⟨gh, 0, none⟩), .pointer (some ⟨gh, 0, none⟩), .pointer (some ⟨gh, 1, none⟩), .func (.func gc) #[] FR, .pointer (some ⟨gh, 0, none⟩), .pointer (some ⟨gh, 0, none⟩), .pointer (some ⟨gh, 0, none⟩), .slice (some ⟨g, 0, none⟩) m cp, .int .i64 ((k : Int)), .int .i64 ((k : Int) + 1), .pointer (some ⟨g, (k + 1) * encH.sz, none⟩), encH.vf (gt d (k + 1)), .pointer (some ⟨gh, 0, none⟩), .pointer (some ⟨gh, 0, none⟩), .pointer (some ⟨gh, 0, none⟩), .slice (some ⟨g, 0, none⟩) m cp, .int .i64 ((k : Int)), .pointer (some ⟨g, (k) * encH.sz, none⟩), encH.vf (gt d (k)), .bool (lt (gt d (k + 1)) (gt d (k))), .bool (lt (gt d (k + 1)) (gt d (k)))] : Array Value).getD q_ undef) 24 _ _ (fun q_ o ho b hvl => wanted_of (gk := 4) (want := true) (by kernel_rfl) ho (fun hw0 => hvl 4 62 hw0 rfl) rfl rfl) ?_ Hask.out ?_ [(some 58, .int .i64 ((k : Int))), (some 59, .int .i64 ((k : Int) + 1)), (some 60, .int .i64 ((m : Int))), (some 61, .bool (true)), (some 62, .bool (true)), (some 63, .pointer (some ⟨gh, 0, none⟩)), (some 64, .pointer (some ⟨gh, 0, none⟩)), (some 65, .pointer (some ⟨gh, 1, none⟩)), (some 66, .func (.func gc) #[] FR), (some 67, .pointer (some ⟨gh, 0, none⟩)), (some 68, .pointer (some ⟨gh, 0, none⟩)), (some 69, .pointer (some ⟨gh, 0, none⟩)), (some 70, .slice (some ⟨g, 0, none⟩) m cp), (some 71, .int .i64 ((k : Int))), (some 72, .int .i64 ((k : Int) + 1)), (some 73, .pointer (some ⟨g, (k + 1) * encH.sz, none⟩)), (some 74, encH.vf (gt d (k + 1))), (some 75, .pointer (some ⟨gh, 0, none⟩)), (some 76, .pointer (some ⟨gh, 0, none⟩)), (some 77, .pointer (some ⟨gh, 0, none⟩)), (some 78, .slice (some ⟨g, 0, none⟩) m cp), (some 79, .int .i64 ((k : Int))), (some 80, .pointer (some ⟨g, (k) * encH.sz, none⟩)), (some 81, encH.vf (gt d (k))), (some 82, .bool (lt (gt d (k + 1)) (gt d (k)))), (some 83, .bool (lt (gt d (k + 1)) (gt d (k))))] rfl ?_
          · intro o ho b W hev
            cases ho
            exact run_callv W 66 74 81 rfl (hev 8 66 (by kernel_rfl) rfl) (hev 16 74 (by kernel_rfl) rfl) (hev 23 81 (by kernel_rfl) rfl) (Hent.out _ _)
          · intro q_ o ho k1 b W hW hev hout
            rcases q_ with _ | _ | _ | _ | _ | _ | _ | _ | _ | _ | _ | _ | _ | _ | _ | _ | _ | _ | _ | _ | _ | _ | _ | _ | _ | _ | q_
            · cases ho
              exact run_move W (.tmp 6) rfl ((hout 6 (by kernel_rfl)).trans rfl)
            · cases ho
              exact run_add W (.tmp 58) (.const (.int .i64 1)) rfl (hev 0 58 (by kernel_rfl) rfl) rfl (IntWalk.i64_in _ (by omega))
            · cases ho
              exact run_move W (.tmp 4) rfl ((hout 4 (by kernel_rfl)).trans rfl)
            · cases ho
              exact run_lss W (.tmp 59) (.tmp 60) rfl (hev 1 59 (by kernel_rfl) rfl) (hev 2 60 (by kernel_rfl) rfl) (by omega)
            · cases ho
              exact run_move W (.tmp 61) rfl (hev 3 61 (by kernel_rfl) rfl)
            · cases ho
              exact run_move W (.tmp 0) rfl ((hout 0 (by kernel_rfl)).trans rfl)
            · cases ho
              exact run_nil W (.tmp 63) rfl (hev 5 63 (by kernel_rfl) rfl)
            · cases ho
              exact run_fa W (.tmp 64) rfl (hev 6 64 (by kernel_rfl) rfl) fa1
            · cases ho
              exact run_load (.tmp 65) rfl (hev 7 65 (by kernel_rfl) rfl) (hl1 W hW)
            · cases ho
              exact run_move W (.tmp 0) rfl ((hout 0 (by kernel_rfl)).trans rfl)
            · cases ho
              exact run_nil W (.tmp 67) rfl (hev 9 67 (by kernel_rfl) rfl)
            · cases ho
              exact run_fa W (.tmp 68) rfl (hev 10 68 (by kernel_rfl) rfl) fa0
            · cases ho
              exact run_load (.tmp 69) rfl (hev 11 69 (by kernel_rfl) rfl) (hl0 W hW)
            · cases ho
              exact run_move W (.tmp 6) rfl ((hout 6 (by kernel_rfl)).trans rfl)
            · cases ho
              exact run_add W (.tmp 71) (.const (.int .i64 1)) rfl (hev 13 71 (by kernel_rfl) rfl) rfl (IntWalk.i64_in _ (by omega))
            · cases ho
              exact run_idxv W (.tmp 70) (.tmp 72) rfl (hev 12 70 (by kernel_rfl) rfl) (hev 14 72 (by kernel_rfl) rfl) (idx_at W (by omega) (by omega))
            · cases ho
              exact run_load (.tmp 73) rfl (hev 15 73 (by kernel_rfl) rfl) (hld_k1 W hW)
            · cases ho
              exact run_move W (.tmp 0) rfl ((hout 0 (by kernel_rfl)).trans rfl)
            · cases ho
              exact run_nil W (.tmp 75) rfl (hev 17 75 (by kernel_rfl) rfl)
            · cases ho
              exact run_fa W (.tmp 76) rfl (hev 18 76 (by kernel_rfl) rfl) fa0
            · cases ho
              exact run_load (.tmp 77) rfl (hev 19 77 (by kernel_rfl) rfl) (hl0 W hW)
            · cases ho
              exact run_move W (.tmp 6) rfl ((hout 6 (by kernel_rfl)).trans rfl)
            · cases ho
              exact run_idxv W (.tmp 78) (.tmp 79) rfl (hev 20 78 (by kernel_rfl) rfl) (hev 21 79 (by kernel_rfl) rfl) (idx_at W (by omega) (by omega))
            · cases ho
              exact run_load (.tmp 80) rfl (hev 22 80 (by kernel_rfl) rfl) (hld_k W hW)
            · exact absurd rfl k1
            · cases ho
              exact run_pick W (.tmp 62) (.tmp 82) rfl (hev 4 62 (by kernel_rfl) rfl) (hev 24 82 (by kernel_rfl) rfl)
            · cases ho
          · intro w5 hb5
            simp only [putP, Exit.then, Act.put, List.setIfInBounds_toArray, List.set_cons_zero, List.set_cons_succ]
            clear hl0 hl1 hld_k hld_k1 Hask
            cases hbb : lt (gt d (k + 1)) (gt d k)
            · have HS : Hid (∀ j, 0 < j → j < d.length → (j - 1) / 2 = i → lt (gt d j) (gt d k) = false) := Lib.hid fun j j0 _ hp => by
                rcases kids HKE.out j0 hp with rfl | rfl
                · exact HO.out.irr _
                · exact hbb
              have HKP : Hid ((k - 1) / 2 = i) := Lib.hid (by have := HKE.out; omega)
              clear hbb hk2
              have hs5 := hb5.size
              have HH5 : Hid (HI w5 B gh (.func (.func gc) #[] FR) (some ⟨g, 0, none⟩) cp d) := Lib.hid (HH2.out.below hb5)
              have HR : Hid (RowG encH w5 B g cp d) := Lib.hid HH5.out.row
              have HBK5 := Lib.hid (HBK.out.below hb5 hglt)
              have HB5 := Lib.hid (⟨HB.out.1.trans (hb5.mono (by omega)), HB.out.2.below hb5⟩ : _ ∧ _)
              have hglt5 : gh < w5.heap.size := by omega
              have hg5 : g < w5.heap.size := by omega
              have hl0 := fun W (hW : Below w5.heap.size w5 W) => load_l W (((HBK5.out.below hW hglt5).cell 0).trans rfl : W.cell? ⟨gh, 0, none⟩ = some (.slice (some ⟨g, 0, none⟩) m cp))
              have hl1 := fun W (hW : Below w5.heap.size w5 W) => load_f W (((HBK5.out.below hW hglt5).cell 1).trans rfl : W.cell? ⟨gh, 1, none⟩ = some (.func (.func gc) #[] FR))
              have hld_k := fun W (hW : Below w5.heap.size w5 W) => okH.ld W g (k * encH.sz) (gt d k) fun j v hv => (HR.out.below hW).cell okH (by omega) hv
              have hld_i := fun W (hW : Below w5.heap.size w5 W) => okH.ld W g (i * encH.sz) (gt d i) fun j v hv => (HR.out.below hW).cell okH (by omega) hv
              have Hask : Hid (∀ W, Below w5.heap.size w5 W → Calls Try.prog gc (#[encH.vf (gt d k), encH.vf (gt d i)] ++ FR) W fun e W' => e = .returned (.bool (lt (gt d k) (gt d i))) ∧ Below W.heap.size W W') := Lib.hid fun W hW => HA.out.call _ _ W (HKW.out _ ((hb5.mono (by omega)).trans (hW.mono (by omega))))
              have HB5r := Lib.hid hb5
              have HBX5 := Lib.hid (HBX.out.below hb5 hxlt)
              have hxlt5 := HBX5.out.lt
              clear hb5
              go_wp2_with fail
              refine wp_ask (by kernel_rfl) (by kernel_rfl) (fun q_ => (#[.pointer (some ⟨gh, 0, none⟩), .pointer (some ⟨gh, 0, none⟩), .pointer (some ⟨gh, 1, none⟩), .func (.func gc) #[] FR, .pointer (some ⟨gh, 0, none⟩), .pointer (some ⟨gh, 0, none⟩), .pointer (some ⟨gh, 0, none⟩), .slice (some ⟨g, 0, none⟩) m cp, .int .i64 ((k : Int)), .pointer (some ⟨g, (k) * encH.sz, none⟩), encH.vf (gt d (k)), .pointer (some ⟨gh, 0, none⟩), .pointer (some ⟨gh, 0, none⟩), .pointer (some ⟨gh, 0, none⟩), .slice (some ⟨g, 0, none⟩) m cp, .int .i64 ((i : Int)), .pointer (some ⟨g, (i) * encH.sz, none⟩), encH.vf (gt d (i)), .bool (lt (gt d (k)) (gt d (i))), .bool (!(lt (gt d (k)) (gt d (i))))] : Array Value).getD q_ undef) 18 _ _ (fun q_ o ho b _ => wanted_free (by kernel_rfl) ho b) ?_ Hask.out ?_ [(some 86, .pointer (some ⟨gh, 0, none⟩)), (some 87, .pointer (some ⟨gh, 0, none⟩)), (some 88, .pointer (some ⟨gh, 1, none⟩)), (some 89, .func (.func gc) #[] FR), (some 90, .pointer (some ⟨gh, 0, none⟩)), (some 91, .pointer (some ⟨gh, 0, none⟩)), (some 92, .pointer (some ⟨gh, 0, none⟩)), (some 93, .slice (some ⟨g, 0, none⟩) m cp), (some 94, .int .i64 ((k : Int))), (some 95, .pointer (some ⟨g, (k) * encH.sz, none⟩)), (some 96, encH.vf (gt d (k))), (some 97, .pointer (some ⟨gh, 0, none⟩)), (some 98, .pointer (some ⟨gh, 0, none⟩)), (some 99, .pointer (some ⟨gh, 0, none⟩)), (some 100, .slice (some ⟨g, 0, none⟩) m cp), (some 101, .int .i64 ((i : Int))), (some 102, .pointer (some ⟨g, (i) * encH.sz, none⟩)), (some 103, encH.vf (gt d (i))), (some 104, .bool (lt (gt d (k)) (gt d (i)))), (some 105, .bool (!(lt (gt d (k)) (gt d (i)))))] rfl ?_
              · intro o ho b W hev
                cases ho
                exact run_callv W 89 96 103 rfl (hev 3 89 (by kernel_rfl) rfl) (hev 10 96 (by kernel_rfl) rfl) (hev 17 103 (by kernel_rfl) rfl) (Hent.out _ _)
              · intro q_ o ho k1 b W hW hev hout
                rcases q_ with _ | _ | _ | _ | _ | _ | _ | _ | _ | _ | _ | _ | _ | _ | _ | _ | _ | _ | _ | _ | q_
                · cases ho
                  exact run_move W (.tmp 0) rfl ((hout 0 (by kernel_rfl)).trans rfl)
                · cases ho
                  exact run_nil W (.tmp 86) rfl (hev 0 86 (by kernel_rfl) rfl)
                · cases ho
                  exact run_fa W (.tmp 87) rfl (hev 1 87 (by kernel_rfl) rfl) fa1
                · cases ho
                  exact run_load (.tmp 88) rfl (hev 2 88 (by kernel_rfl) rfl) (hl1 W hW)
                · cases ho
                  exact run_move W (.tmp 0) rfl ((hout 0 (by kernel_rfl)).trans rfl)
                · cases ho
                  exact run_nil W (.tmp 90) rfl (hev 4 90 (by kernel_rfl) rfl)
                · cases ho
                  exact run_fa W (.tmp 91) rfl (hev 5 91 (by kernel_rfl) rfl) fa0
                · cases ho
                  exact run_load (.tmp 92) rfl (hev 6 92 (by kernel_rfl) rfl) (hl0 W hW)
                · cases ho
                  exact run_move W (.tmp 6) rfl ((hout 6 (by kernel_rfl)).trans rfl)
                · cases ho
                  exact run_idxv W (.tmp 93) (.tmp 94) rfl (hev 7 93 (by kernel_rfl) rfl) (hev 8 94 (by kernel_rfl) rfl) (idx_at W (by omega) (by omega))
                · cases ho
                  exact run_load (.tmp 95) rfl (hev 9 95 (by kernel_rfl) rfl) (hld_k W hW)
                · cases ho
                  exact run_move W (.tmp 0) rfl ((hout 0 (by kernel_rfl)).trans rfl)
                · cases ho
                  exact run_nil W (.tmp 97) rfl (hev 11 97 (by kernel_rfl) rfl)
                · cases ho
                  exact run_fa W (.tmp 98) rfl (hev 12 98 (by kernel_rfl) rfl) fa0
                · cases ho
                  exact run_load (.tmp 99) rfl (hev 13 99 (by kernel_rfl) rfl) (hl0 W hW)
                · cases ho
                  exact run_move W (.tmp 5) rfl ((hout 5 (by kernel_rfl)).trans rfl)
                · cases ho
                  exact run_idxv W (.tmp 100) (.tmp 101) rfl (hev 14 100 (by kernel_rfl) rfl) (hev 15 101 (by kernel_rfl) rfl) (idx_at W (by omega) (by omega))
                · cases ho
                  exact run_load (.tmp 102) rfl (hev 16 102 (by kernel_rfl) rfl) (hld_i W hW)
                · exact absurd rfl k1
                · cases ho
                  exact run_not W (.tmp 104) rfl (hev 18 104 (by kernel_rfl) rfl)
                · cases ho
              · intro w6 hb6
                have hs6 := hb6.size
                have HR : Hid (RowG encH w6 B g cp d) := Lib.hid (HR.out.below hb6)
                have HBK6 := Lib.hid (HBK5.out.below hb6 hglt5)
                have HBX6 := Lib.hid (HBX5.out.below hb6 hxlt5)
                have HB6 := Lib.hid (⟨HB5.out.1.trans (hb6.mono (by omega)), HB5.out.2.below hb6⟩ : _ ∧ _)
                have HST : Hid (lt (gt d k) (gt d i) = false → ∀ W, Only w.heap.size w6 W → HeapR B gh (.func (.func gc) #[] FR) lt (some g) w.heap.size (cutLast dz) W) := Lib.hid fun hl W hW => HF.out _ W ((HB5r.out.trans (hb6.mono hs5))) hW fun j j0 hj hp => HO.out.neg _ _ _ (HS.out j j0 hj hp) hl
                have HNX : Hid (lt (gt d k) (gt d i) = true → Down lt (sw d i k) k) := Lib.hid fun hl => HU.out.1.step HO.out (by omega) (by omega) hk0 HKP.out hl HS.out
                simp only [putP, Exit.then, Act.put, List.setIfInBounds_toArray, List.set_cons_zero, List.set_cons_succ]
                clear hl0 hl1 hld_i hld_k Hask hb6
                cases hbc : lt (gt d k) (gt d i)
                · have HX := Lib.hid (HST.out hbc)
                  clear hbc
                  obtain ⟨⟨z0, z1, z2, z3, z4, z5, z6, z7, z8, z9⟩, ⟨f0, f1, f2, f3, f4, f5, f6, f7, f8, f9⟩⟩ := ten_at HBX6.out
                  go_wp2
                  have ho := only_ten w6 w.heap.size (.int .i64 x0.x.kind) (.int .i64 x0.x.time) (.slice x0.x.A x0.x.labs.length x0.x.cp) (.string x0.x.text) (.int .i64 x0.x.value) (.bool x0.x.null) (.int .i64 x0.x.maker) (.int .i64 x0.x.seq) (.int .i64 x0.x.place) (.slice x0.A x0.rest.length x0.cp)
                  refine bodyPost_ret (results_hd rfl _ _ w.heap.size _ _ _ _ rfl rfl (blk_ten HBX6.out (.int .i64 x0.x.kind) (.int .i64 x0.x.time) (.slice x0.x.A x0.x.labs.length x0.x.cp) (.string x0.x.text) (.int .i64 x0.x.value) (.bool x0.x.null) (.int .i64 x0.x.maker) (.int .i64 x0.x.seq) (.int .i64 x0.x.place) (.slice x0.A x0.rest.length x0.cp)) Try.underlying86 rfl (by kernel_rfl)) rfl ?_
                  exact ⟨rfl, HX.out _ ho, (HB4.out.trans HB6.out.1).trans (ho.below (by omega) (by omega)), (HB6.out.2).only ho (.inr (.inr (Nat.le_refl _)))⟩
                · have HX := Lib.hid (HNX.out hbc)
                  clear hbc
                  have hl0 := fun W (hW : Only g w6 W) => load_l W (((hW.blk HBK6.out hgne).cell 0).trans rfl : W.cell? ⟨gh, 0, none⟩ = some (.slice (some ⟨g, 0, none⟩) m cp))
                  go_wp2_with fail
                  refine wp_exch (by kernel_rfl) (by kernel_rfl) encH okH _ g _ _ (i) (k) (by omega) (by omega) HR.out
                    (fun q_ => (#[.pointer (some ⟨gh, 0, none⟩), .pointer (some ⟨gh, 0, none⟩), .pointer (some ⟨gh, 0, none⟩), .slice (some ⟨g, 0, none⟩) m cp, .int .i64 ((i : Int)), .pointer (some ⟨gh, 0, none⟩), .pointer (some ⟨gh, 0, none⟩), .pointer (some ⟨gh, 0, none⟩), .slice (some ⟨g, 0, none⟩) m cp, .int .i64 ((k : Int)), .pointer (some ⟨gh, 0, none⟩), .pointer (some ⟨gh, 0, none⟩), .pointer (some ⟨gh, 0, none⟩), .slice (some ⟨g, 0, none⟩) m cp, .int .i64 ((k : Int)), .pointer (some ⟨g, (k) * encH.sz, none⟩), encH.vf (gt d (k)), .pointer (some ⟨gh, 0, none⟩), .pointer (some ⟨gh, 0, none⟩), .pointer (some ⟨gh, 0, none⟩), .slice (some ⟨g, 0, none⟩) m cp, .int .i64 ((i : Int)), .pointer (some ⟨g, (i) * encH.sz, none⟩), encH.vf (gt d (i)), .pointer (some ⟨g, (i) * encH.sz, none⟩), undef, .pointer (some ⟨g, (k) * encH.sz, none⟩), undef] : Array Value).getD q_ undef) 16 23 25 27 15 22 24 26 122 129 131 132 123 130 rfl rfl rfl rfl rfl rfl ⟨_, rfl, rfl⟩ ⟨_, rfl, rfl⟩ ⟨_, rfl, rfl, rfl⟩ ⟨_, rfl, rfl, rfl⟩ (by exact ⟨rfl, rfl, rfl, rfl, rfl, rfl⟩) (by kernel_rfl) (by decide) ?_ [(some 107, .pointer (some ⟨gh, 0, none⟩)), (some 108, .pointer (some ⟨gh, 0, none⟩)), (some 109, .pointer (some ⟨gh, 0, none⟩)), (some 110, .slice (some ⟨g, 0, none⟩) m cp), (some 111, .int .i64 ((i : Int))), (some 112, .pointer (some ⟨gh, 0, none⟩)), (some 113, .pointer (some ⟨gh, 0, none⟩)), (some 114, .pointer (some ⟨gh, 0, none⟩)), (some 115, .slice (some ⟨g, 0, none⟩) m cp), (some 116, .int .i64 ((k : Int))), (some 117, .pointer (some ⟨gh, 0, none⟩)), (some 118, .pointer (some ⟨gh, 0, none⟩)), (some 119, .pointer (some ⟨gh, 0, none⟩)), (some 120, .slice (some ⟨g, 0, none⟩) m cp), (some 121, .int .i64 ((k : Int))), (some 122, .pointer (some ⟨g, (k) * encH.sz, none⟩)), (some 123, encH.vf (gt d (k))), (some 124, .pointer (some ⟨gh, 0, none⟩)), (some 125, .pointer (some ⟨gh, 0, none⟩)), (some 126, .pointer (some ⟨gh, 0, none⟩)), (some 127, .slice (some ⟨g, 0, none⟩) m cp), (some 128, .int .i64 ((i : Int))), (some 129, .pointer (some ⟨g, (i) * encH.sz, none⟩)), (some 130, encH.vf (gt d (i))), (some 131, .pointer (some ⟨g, (i) * encH.sz, none⟩)), (none, undef), (some 132, .pointer (some ⟨g, (k) * encH.sz, none⟩)), (none, undef)] rfl ?_ (by exact ⟨by decide, by decide⟩)
                  · intro q_ o ho k1 k2 k3 k4 b W hW hev hout
                    rcases q_ with _ | _ | _ | _ | _ | _ | _ | _ | _ | _ | _ | _ | _ | _ | _ | _ | _ | _ | _ | _ | _ | _ | _ | _ | _ | _ | _ | _ | q_
                    · cases ho
                      exact run_move W (.tmp 0) rfl ((hout 0 (by kernel_rfl)).trans rfl)
                    · cases ho
                      exact run_nil W (.tmp 107) rfl (hev 0 107 (by kernel_rfl) (by decide) (by decide) rfl)
                    · cases ho
                      exact run_fa W (.tmp 108) rfl (hev 1 108 (by kernel_rfl) (by decide) (by decide) rfl) fa0
                    · cases ho
                      exact run_load (.tmp 109) rfl (hev 2 109 (by kernel_rfl) (by decide) (by decide) rfl) (hl0 W hW)
                    · cases ho
                      exact run_move W (.tmp 5) rfl ((hout 5 (by kernel_rfl)).trans rfl)
                    · cases ho
                      exact run_move W (.tmp 0) rfl ((hout 0 (by kernel_rfl)).trans rfl)
                    · cases ho
                      exact run_nil W (.tmp 112) rfl (hev 5 112 (by kernel_rfl) (by decide) (by decide) rfl)
                    · cases ho
                      exact run_fa W (.tmp 113) rfl (hev 6 113 (by kernel_rfl) (by decide) (by decide) rfl) fa0
                    · cases ho
                      exact run_load (.tmp 114) rfl (hev 7 114 (by kernel_rfl) (by decide) (by decide) rfl) (hl0 W hW)
                    · cases ho
                      exact run_move W (.tmp 6) rfl ((hout 6 (by kernel_rfl)).trans rfl)
                    · cases ho
                      exact run_move W (.tmp 0) rfl ((hout 0 (by kernel_rfl)).trans rfl)
                    · cases ho
                      exact run_nil W (.tmp 117) rfl (hev 10 117 (by kernel_rfl) (by decide) (by decide) rfl)
                    · cases ho
                      exact run_fa W (.tmp 118) rfl (hev 11 118 (by kernel_rfl) (by decide) (by decide) rfl) fa0
                    · cases ho
                      exact run_load (.tmp 119) rfl (hev 12 119 (by kernel_rfl) (by decide) (by decide) rfl) (hl0 W hW)
                    · cases ho
                      exact run_move W (.tmp 6) rfl ((hout 6 (by kernel_rfl)).trans rfl)
                    · cases ho
                      exact run_idxv W (.tmp 120) (.tmp 121) rfl (hev 13 120 (by kernel_rfl) (by decide) (by decide) rfl) (hev 14 121 (by kernel_rfl) (by decide) (by decide) rfl) (idx_at W (by omega) (by omega))
                    · exact absurd rfl k1
                    · cases ho
                      exact run_move W (.tmp 0) rfl ((hout 0 (by kernel_rfl)).trans rfl)
                    · cases ho
                      exact run_nil W (.tmp 124) rfl (hev 17 124 (by kernel_rfl) (by decide) (by decide) rfl)
                    · cases ho
                      exact run_fa W (.tmp 125) rfl (hev 18 125 (by kernel_rfl) (by decide) (by decide) rfl) fa0
                    · cases ho
                      exact run_load (.tmp 126) rfl (hev 19 126 (by kernel_rfl) (by decide) (by decide) rfl) (hl0 W hW)
                    · cases ho
                      exact run_move W (.tmp 5) rfl ((hout 5 (by kernel_rfl)).trans rfl)
                    · cases ho
                      exact run_idxv W (.tmp 127) (.tmp 128) rfl (hev 20 127 (by kernel_rfl) (by decide) (by decide) rfl) (hev 21 128 (by kernel_rfl) (by decide) (by decide) rfl) (idx_at W (by omega) (by omega))
                    · exact absurd rfl k2
                    · cases ho
                      exact run_idxv W (.tmp 110) (.tmp 111) rfl (hev 3 110 (by kernel_rfl) (by decide) (by decide) rfl) (hev 4 111 (by kernel_rfl) (by decide) (by decide) rfl) (idx_at W (by omega) (by omega))
                    · exact absurd rfl k3
                    · cases ho
                      exact run_idxv W (.tmp 115) (.tmp 116) rfl (hev 8 115 (by kernel_rfl) (by decide) (by decide) rfl) (hev 9 116 (by kernel_rfl) (by decide) (by decide) rfl) (idx_at W (by omega) (by omega))
                    · exact absurd rfl k4
                    · cases ho
                  · intro w7 hrow honly
                    have HH7 : Hid (HI w7 B gh (.func (.func gc) #[] FR) (some ⟨g, 0, none⟩) cp (sw d i k)) := Lib.hid ⟨by rw [sw_len, HED.out]; exact honly.blk HBK6.out hgne, hlow, hrow⟩
                    have HU7 := Lib.hid (⟨HX.out, (sw_perm (d := d) (p := i) (q := k) (by omega) (by omega)).trans HU.out.2⟩ : _ ∧ _)
                    have HBX7 := Lib.hid (honly.blk HBX6.out hgx)
                    have HB7 := Lib.hid (⟨HB6.out.1.trans (honly.below hgB (by omega)), HB6.out.2.only honly (.inr (.inl rfl))⟩ : _ ∧ _)
                    have e1 : (sw d i k).length = d.length := sw_len _ _ _
                    have e2 : m ≤ (sw d i k).length := by omega
                    have e3 : (sw d i k).length ≤ m := by omega
                    simp only [putP, Exit.then, Act.put, List.setIfInBounds_toArray, List.set_cons_zero, List.set_cons_succ]
                    clear hl0 e1 hrow honly HST HNX
                    generalize sw d i k = d7 at *
                    go_wp2
                    go_roundw
                    case rel => exact ⟨k, d7, by omega, e2, e3, rfl, HH7, HU7, HB7, HBX7⟩
                    case measure => simp [intOf]; omega
            · have HS0 : Hid (∀ j, 0 < j → j < d.length → (j - 1) / 2 = i → lt (gt d j) (gt d (k + 1)) = false) := Lib.hid fun j j0 _ hp => by
                rcases kids HKE.out j0 hp with rfl | rfl
                · exact HO.out.asym hbb
                · exact HO.out.irr _
              have HKP0 : Hid ((k + 1 - 1) / 2 = i) := Lib.hid (by have := HKE.out; omega)
              have e2 : (k : Int) + 1 = ((k + 1 : Nat) : Int) := by omega
              have E2 := Lib.hid e2
              clear hbb e2
              go_wp2_with fail
              rw [E2.out]
              clear E2
              have hk1 : k + 1 < m := hk2
              have hik : i < k + 1 := by omega
              have hk0 : 0 < k + 1 := by omega
              clear hk2 EK HKE
              obtain ⟨kz, hkz⟩ : ∃ kz, kz = k + 1 := ⟨_, rfl⟩
              rw [← hkz] at HS0 HKP0 hk1 hik hk0 ⊢
              clear hkz
              obtain ⟨k, hkz⟩ : ∃ k, k = kz := ⟨_, rfl⟩
              subst hkz
              have HS := HS0
              have HKP := HKP0
              have hs5 := hb5.size
              have HH5 : Hid (HI w5 B gh (.func (.func gc) #[] FR) (some ⟨g, 0, none⟩) cp d) := Lib.hid (HH2.out.below hb5)
              have HR : Hid (RowG encH w5 B g cp d) := Lib.hid HH5.out.row
              have HBK5 := Lib.hid (HBK.out.below hb5 hglt)
              have HB5 := Lib.hid (⟨HB.out.1.trans (hb5.mono (by omega)), HB.out.2.below hb5⟩ : _ ∧ _)
              have hglt5 : gh < w5.heap.size := by omega
              have hg5 : g < w5.heap.size := by omega
              have hl0 := fun W (hW : Below w5.heap.size w5 W) => load_l W (((HBK5.out.below hW hglt5).cell 0).trans rfl : W.cell? ⟨gh, 0, none⟩ = some (.slice (some ⟨g, 0, none⟩) m cp))
              have hl1 := fun W (hW : Below w5.heap.size w5 W) => load_f W (((HBK5.out.below hW hglt5).cell 1).trans rfl : W.cell? ⟨gh, 1, none⟩ = some (.func (.func gc) #[] FR))
              have hld_k := fun W (hW : Below w5.heap.size w5 W) => okH.ld W g (k * encH.sz) (gt d k) fun j v hv => (HR.out.below hW).cell okH (by omega) hv
              have hld_i := fun W (hW : Below w5.heap.size w5 W) => okH.ld W g (i * encH.sz) (gt d i) fun j v hv => (HR.out.below hW).cell okH (by omega) hv
              have Hask : Hid (∀ W, Below w5.heap.size w5 W → Calls Try.prog gc (#[encH.vf (gt d k), encH.vf (gt d i)] ++ FR) W fun e W' => e = .returned (.bool (lt (gt d k) (gt d i))) ∧ Below W.heap.size W W') := Lib.hid fun W hW => HA.out.call _ _ W (HKW.out _ ((hb5.mono (by omega)).trans (hW.mono (by omega))))
              have HB5r := Lib.hid hb5
              have HBX5 := Lib.hid (HBX.out.below hb5 hxlt)
              have hxlt5 := HBX5.out.lt
              clear hb5
              go_wp2_with fail
              refine wp_ask (by kernel_rfl) (by kernel_rfl) (fun q_ => (#[.pointer (some ⟨gh, 0, none⟩), .pointer (some ⟨gh, 0, none⟩), .pointer (some ⟨gh, 1, none⟩), .func (.func gc) #[] FR, .pointer (some ⟨gh, 0, none⟩), .pointer (some ⟨gh, 0, none⟩), .pointer (some ⟨gh, 0, none⟩), .slice (some ⟨g, 0, none⟩) m cp, .int .i64 ((k : Int)), .pointer (some ⟨g, (k) * encH.sz, none⟩), encH.vf (gt d (k)), .pointer (some ⟨gh, 0, none⟩), .pointer (some ⟨gh, 0, none⟩), .pointer (some ⟨gh, 0, none⟩), .slice (some ⟨g, 0, none⟩) m cp, .int .i64 ((i : Int)), .pointer (some ⟨g, (i) * encH.sz, none⟩), encH.vf (gt d (i)), .bool (lt (gt d (k)) (gt d (i))), .bool (!(lt (gt d (k)) (gt d (i))))] : Array Value).getD q_ undef) 18 _ _ (fun q_ o ho b _ => wanted_free (by kernel_rfl) ho b) ?_ Hask.out ?_ [(some 86, .pointer (some ⟨gh, 0, none⟩)), (some 87, .pointer (some ⟨gh, 0, none⟩)), (some 88, .pointer (some ⟨gh, 1, none⟩)), (some 89, .func (.func gc) #[] FR), (some 90, .pointer (some ⟨gh, 0, none⟩)), (some 91, .pointer (some ⟨gh, 0, none⟩)), (some 92, .pointer (some ⟨gh, 0, none⟩)), (some 93, .slice (some ⟨g, 0, none⟩) m cp), (some 94, .int .i64 ((k : Int))), (some 95, .pointer (some ⟨g, (k) * encH.sz, none⟩)), (some 96, encH.vf (gt d (k))), (some 97, .pointer (some ⟨gh, 0, none⟩)), (some 98, .pointer (some ⟨gh, 0, none⟩)), (some 99, .pointer (some ⟨gh, 0, none⟩)), (some 100, .slice (some ⟨g, 0, none⟩) m cp), (some 101, .int .i64 ((i : Int))), (some 102, .pointer (some ⟨g, (i) * encH.sz, none⟩)), (some 103, encH.vf (gt d (i))), (some 104, .bool (lt (gt d (k)) (gt d (i)))), (some 105, .bool (!(lt (gt d (k)) (gt d (i)))))] rfl ?_
              · intro o ho b W hev
                cases ho
                exact run_callv W 89 96 103 rfl (hev 3 89 (by kernel_rfl) rfl) (hev 10 96 (by kernel_rfl) rfl) (hev 17 103 (by kernel_rfl) rfl) (Hent.out _ _)
              · intro q_ o ho k1 b W hW hev hout
                rcases q_ with _ | _ | _ | _ | _ | _ | _ | _ | _ | _ | _ | _ | _ | _ | _ | _ | _ | _ | _ | _ | q_
                · cases ho
                  exact run_move W (.tmp 0) rfl ((hout 0 (by kernel_rfl)).trans rfl)
                · cases ho
                  exact run_nil W (.tmp 86) rfl (hev 0 86 (by kernel_rfl) rfl)
                · cases ho
                  exact run_fa W (.tmp 87) rfl (hev 1 87 (by kernel_rfl) rfl) fa1
                · cases ho
                  exact run_load (.tmp 88) rfl (hev 2 88 (by kernel_rfl) rfl) (hl1 W hW)
                · cases ho
                  exact run_move W (.tmp 0) rfl ((hout 0 (by kernel_rfl)).trans rfl)
                · cases ho
                  exact run_nil W (.tmp 90) rfl (hev 4 90 (by kernel_rfl) rfl)
                · cases ho
                  exact run_fa W (.tmp 91) rfl (hev 5 91 (by kernel_rfl) rfl) fa0
                · cases ho
                  exact run_load (.tmp 92) rfl (hev 6 92 (by kernel_rfl) rfl) (hl0 W hW)
                · cases ho
                  exact run_move W (.tmp 6) rfl ((hout 6 (by kernel_rfl)).trans rfl)
                · cases ho
                  exact run_idxv W (.tmp 93) (.tmp 94) rfl (hev 7 93 (by kernel_rfl) rfl) (hev 8 94 (by kernel_rfl) rfl) (idx_at W (by omega) (by omega))
                · cases ho
                  exact run_load (.tmp 95) rfl (hev 9 95 (by kernel_rfl) rfl) (hld_k W hW)
                · cases ho
                  exact run_move W (.tmp 0) rfl ((hout 0 (by kernel_rfl)).trans rfl)
                · cases ho
                  exact run_nil W (.tmp 97) rfl (hev 11 97 (by kernel_rfl) rfl)
                · cases ho
                  exact run_fa W (.tmp 98) rfl (hev 12 98 (by kernel_rfl) rfl) fa0
                · cases ho
                  exact run_load (.tmp 99) rfl (hev 13 99 (by kernel_rfl) rfl) (hl0 W hW)
                · cases ho
                  exact run_move W (.tmp 5) rfl ((hout 5 (by kernel_rfl)).trans rfl)
                · cases ho
                  exact run_idxv W (.tmp 100) (.tmp 101) rfl (hev 14 100 (by kernel_rfl) rfl) (hev 15 101 (by kernel_rfl) rfl) (idx_at W (by omega) (by omega))
                · cases ho
                  exact run_load (.tmp 102) rfl (hev 16 102 (by kernel_rfl) rfl) (hld_i W hW)
                · exact absurd rfl k1
                · cases ho
                  exact run_not W (.tmp 104) rfl (hev 18 104 (by kernel_rfl) rfl)
                · cases ho
              · intro w6 hb6
                have hs6 := hb6.size
                have HR : Hid (RowG encH w6 B g cp d) := Lib.hid (HR.out.below hb6)
                have HBK6 := Lib.hid (HBK5.out.below hb6 hglt5)
                have HBX6 := Lib.hid (HBX5.out.below hb6 hxlt5)
                have HB6 := Lib.hid (⟨HB5.out.1.trans (hb6.mono (by omega)), HB5.out.2.below hb6⟩ : _ ∧ _)
                have HST : Hid (lt (gt d k) (gt d i) = false → ∀ W, Only w.heap.size w6 W → HeapR B gh (.func (.func gc) #[] FR) lt (some g) w.heap.size (cutLast dz) W) := Lib.hid fun hl W hW => HF.out _ W ((HB5r.out.trans (hb6.mono hs5))) hW fun j j0 hj hp => HO.out.neg _ _ _ (HS.out j j0 hj hp) hl
                have HNX : Hid (lt (gt d k) (gt d i) = true → Down lt (sw d i k) k) := Lib.hid fun hl => HU.out.1.step HO.out (by omega) (by omega) hk0 HKP.out hl HS.out
                simp only [putP, Exit.then, Act.put, List.setIfInBounds_toArray, List.set_cons_zero, List.set_cons_succ]
                clear hl0 hl1 hld_i hld_k Hask hb6
                cases hbc : lt (gt d k) (gt d i)
                · have HX := Lib.hid (HST.out hbc)
                  clear hbc
                  obtain ⟨⟨z0, z1, z2, z3, z4, z5, z6, z7, z8, z9⟩, ⟨f0, f1, f2, f3, f4, f5, f6, f7, f8, f9⟩⟩ := ten_at HBX6.out
                  go_wp2
                  have ho := only_ten w6 w.heap.size (.int .i64 x0.x.kind) (.int .i64 x0.x.time) (.slice x0.x.A x0.x.labs.length x0.x.cp) (.string x0.x.text) (.int .i64 x0.x.value) (.bool x0.x.null) (.int .i64 x0.x.maker) (.int .i64 x0.x.seq) (.int .i64 x0.x.place) (.slice x0.A x0.rest.length x0.cp)
                  refine bodyPost_ret (results_hd rfl _ _ w.heap.size _ _ _ _ rfl rfl (blk_ten HBX6.out (.int .i64 x0.x.kind) (.int .i64 x0.x.time) (.slice x0.x.A x0.x.labs.length x0.x.cp) (.string x0.x.text) (.int .i64 x0.x.value) (.bool x0.x.null) (.int .i64 x0.x.maker) (.int .i64 x0.x.seq) (.int .i64 x0.x.place) (.slice x0.A x0.rest.length x0.cp)) Try.underlying86 rfl (by kernel_rfl)) rfl ?_
                  exact ⟨rfl, HX.out _ ho, (HB4.out.trans HB6.out.1).trans (ho.below (by omega) (by omega)), (HB6.out.2).only ho (.inr (.inr (Nat.le_refl _)))⟩
                · have HX := Lib.hid (HNX.out hbc)
                  clear hbc
                  have hl0 := fun W (hW : Only g w6 W) => load_l W (((hW.blk HBK6.out hgne).cell 0).trans rfl : W.cell? ⟨gh, 0, none⟩ = some (.slice (some ⟨g, 0, none⟩) m cp))
                  go_wp2_with fail
                  refine wp_exch (by kernel_rfl) (by kernel_rfl) encH okH _ g _ _ (i) (k) (by omega) (by omega) HR.out
                    (fun q_ => (#[.pointer (some ⟨gh, 0, none⟩), .pointer (some ⟨gh, 0, none⟩), .pointer (some ⟨gh, 0, none⟩), .slice (some ⟨g, 0, none⟩) m cp, .int .i64 ((i : Int)), .pointer (some ⟨gh, 0, none⟩), .pointer (some ⟨gh, 0, none⟩), .pointer (some ⟨gh, 0, none⟩), .slice (some ⟨g, 0, none⟩) m cp, .int .i64 ((k : Int)), .pointer (some ⟨gh, 0, none⟩), .pointer (some ⟨gh, 0, none⟩), .pointer (some ⟨gh, 0, none⟩), .slice (some ⟨g, 0, none⟩) m cp, .int .i64 ((k : Int)), .pointer (some ⟨g, (k) * encH.sz, none⟩), encH.vf (gt d (k)), .pointer (some ⟨gh, 0, none⟩), .pointer (some ⟨gh, 0, none⟩), .pointer (some ⟨gh, 0, none⟩), .slice (some ⟨g, 0, none⟩) m cp, .int .i64 ((i : Int)), .pointer (some ⟨g, (i) * encH.sz, none⟩), encH.vf (gt d (i)), .pointer (some ⟨g, (i) * encH.sz, none⟩), undef, .pointer (some ⟨g, (k) * encH.sz, none⟩), undef] : Array Value).getD q_ undef) 16 23 25 27 15 22 24 26 122 129 131 132 123 130 rfl rfl rfl rfl rfl rfl ⟨_, rfl, rfl⟩ ⟨_, rfl, rfl⟩ ⟨_, rfl, rfl, rfl⟩ ⟨_, rfl, rfl, rfl⟩ (by exact ⟨rfl, rfl, rfl, rfl, rfl, rfl⟩) (by kernel_rfl) (by decide) ?_ [(some 107, .pointer (some ⟨gh, 0, none⟩)), (some 108, .pointer (some ⟨gh, 0, none⟩)), (some 109, .pointer (some ⟨gh, 0, none⟩)), (some 110, .slice (some ⟨g, 0, none⟩) m cp), (some 111, .int .i64 ((i : Int))), (some 112, .pointer (some ⟨gh, 0, none⟩)), (some 113, .pointer (some ⟨gh, 0, none⟩)), (some 114, .pointer (some ⟨gh, 0, none⟩)), (some 115, .slice (some ⟨g, 0, none⟩) m cp), (some 116, .int .i64 ((k : Int))), (some 117, .pointer (some ⟨gh, 0, none⟩)), (some 118, .pointer (some ⟨gh, 0, none⟩)), (some 119, .pointer (some ⟨gh, 0, none⟩)), (some 120, .slice (some ⟨g, 0, none⟩) m cp), (some 121, .int .i64 ((k : Int))), (some 122, .pointer (some ⟨g, (k) * encH.sz, none⟩)), (some 123, encH.vf (gt d (k))), (some 124, .pointer (some ⟨gh, 0, none⟩)), (some 125, .pointer (some ⟨gh, 0, none⟩)), (some 126, .pointer (some ⟨gh, 0, none⟩)), (some 127, .slice (some ⟨g, 0, none⟩) m cp), (some 128, .int .i64 ((i : Int))), (some 129, .pointer (some ⟨g, (i) * encH.sz, none⟩)), (some 130, encH.vf (gt d (i))), (some 131, .pointer (some ⟨g, (i) * encH.sz, none⟩)), (none, undef), (some 132, .pointer (some ⟨g, (k) * encH.sz, none⟩)), (none, undef)] rfl ?_ (by exact ⟨by decide, by decide⟩)
                  · intro q_ o ho k1 k2 k3 k4 b W hW hev hout
                    rcases q_ with _ | _ | _ | _ | _ | _ | _ | _ | _ | _ | _ | _ | _ | _ | _ | _ | _ | _ | _ | _ | _ | _ | _ | _ | _ | _ | _ | _ | q_
                    · cases ho
                      exact run_move W (.tmp 0) rfl ((hout 0 (by kernel_rfl)).trans rfl)
                    · cases ho
                      exact run_nil W (.tmp 107) rfl (hev 0 107 (by kernel_rfl) (by decide) (by decide) rfl)
                    · cases ho
                      exact run_fa W (.tmp 108) rfl (hev 1 108 (by kernel_rfl) (by decide) (by decide) rfl) fa0
                    · cases ho
                      exact run_load (.tmp 109) rfl (hev 2 109 (by kernel_rfl) (by decide) (by decide) rfl) (hl0 W hW)
                    · cases ho
                      exact run_move W (.tmp 5) rfl ((hout 5 (by kernel_rfl)).trans rfl)
                    · cases ho
                      exact run_move W (.tmp 0) rfl ((hout 0 (by kernel_rfl)).trans rfl)
                    · cases ho
                      exact run_nil W (.tmp 112) rfl (hev 5 112 (by kernel_rfl) (by decide) (by decide) rfl)
                    · cases ho
                      exact run_fa W (.tmp 113) rfl (hev 6 113 (by kernel_rfl) (by decide) (by decide) rfl) fa0
                    · cases ho
                      exact run_load (.tmp 114) rfl (hev 7 114 (by kernel_rfl) (by decide) (by decide) rfl) (hl0 W hW)
                    · cases ho
                      exact run_move W (.tmp 6) rfl ((hout 6 (by kernel_rfl)).trans rfl)
                    · cases ho
                      exact run_move W (.tmp 0) rfl ((hout 0 (by kernel_rfl)).trans rfl)
                    · cases ho
                      exact run_nil W (.tmp 117) rfl (hev 10 117 (by kernel_rfl) (by decide) (by decide) rfl)
                    · cases ho
                      exact run_fa W (.tmp 118) rfl (hev 11 118 (by kernel_rfl) (by decide) (by decide) rfl) fa0
                    · cases ho
                      exact run_load (.tmp 119) rfl (hev 12 119 (by kernel_rfl) (by decide) (by decide) rfl) (hl0 W hW)
                    · cases ho
                      exact run_move W (.tmp 6) rfl ((hout 6 (by kernel_rfl)).trans rfl)
                    · cases ho
                      exact run_idxv W (.tmp 120) (.tmp 121) rfl (hev 13 120 (by kernel_rfl) (by decide) (by decide) rfl) (hev 14 121 (by kernel_rfl) (by decide) (by decide) rfl) (idx_at W (by omega) (by omega))
                    · exact absurd rfl k1
                    · cases ho
                      exact run_move W (.tmp 0) rfl ((hout 0 (by kernel_rfl)).trans rfl)
                    · cases ho
                      exact run_nil W (.tmp 124) rfl (hev 17 124 (by kernel_rfl) (by decide) (by decide) rfl)
                    · cases ho
                      exact run_fa W (.tmp 125) rfl (hev 18 125 (by kernel_rfl) (by decide) (by decide) rfl) fa0
                    · cases ho
                      exact run_load (.tmp 126) rfl (hev 19 126 (by kernel_rfl) (by decide) (by decide) rfl) (hl0 W hW)
                    · cases ho
                      exact run_move W (.tmp 5) rfl ((hout 5 (by kernel_rfl)).trans rfl)
                    · cases ho
                      exact run_idxv W (.tmp 127) (.tmp 128) rfl (hev 20 127 (by kernel_rfl) (by decide) (by decide) rfl) (hev 21 128 (by kernel_rfl) (by decide) (by decide) rfl) (idx_at W (by omega) (by omega))
                    · exact absurd rfl k2
                    · cases ho
                      exact run_idxv W (.tmp 110) (.tmp 111) rfl (hev 3 110 (by kernel_rfl) (by decide) (by decide) rfl) (hev 4 111 (by kernel_rfl) (by decide) (by decide) rfl) (idx_at W (by omega) (by omega))
                    · exact absurd rfl k3
                    · cases ho
                      exact run_idxv W (.tmp 115) (.tmp 116) rfl (hev 8 115 (by kernel_rfl) (by decide) (by decide) rfl) (hev 9 116 (by kernel_rfl) (by decide) (by decide) rfl) (idx_at W (by omega) (by omega))
                    · exact absurd rfl k4
                    · cases ho
                  · intro w7 hrow honly
                    have HH7 : Hid (HI w7 B gh (.func (.func gc) #[] FR) (some ⟨g, 0, none⟩) cp (sw d i k)) := Lib.hid ⟨by rw [sw_len, HED.out]; exact honly.blk HBK6.out hgne, hlow, hrow⟩
                    have HU7 := Lib.hid (⟨HX.out, (sw_perm (d := d) (p := i) (q := k) (by omega) (by omega)).trans HU.out.2⟩ : _ ∧ _)
                    have HBX7 := Lib.hid (honly.blk HBX6.out hgx)
                    have HB7 := Lib.hid (⟨HB6.out.1.trans (honly.below hgB (by omega)), HB6.out.2.only honly (.inr (.inl rfl))⟩ : _ ∧ _)
                    have e1 : (sw d i k).length = d.length := sw_len _ _ _
                    have e2 : m ≤ (sw d i k).length := by omega
                    have e3 : (sw d i k).length ≤ m := by omega
                    simp only [putP, Exit.then, Act.put, List.setIfInBounds_toArray, List.set_cons_zero, List.set_cons_succ]
                    clear hl0 e1 hrow honly HST HNX
                    generalize sw d i k = d7 at *
                    go_wp2
                    go_roundw
                    case rel => exact ⟨k, d7, by omega, e2, e3, rfl, HH7, HU7, HB7, HBX7⟩
                    case measure => simp [intOf]; omega
        · have HS : Hid (∀ j, 0 < j → j < d.length → (j - 1) / 2 = i → lt (gt d j) (gt d k) = false) := Lib.hid fun j j0 hj hp => by
            rcases kids HKE.out j0 hp with rfl | rfl
            · exact HO.out.irr _
            · omega
          have HKP : Hid ((k - 1) / 2 = i) := Lib.hid (by have := HKE.out; omega)
          have t0 : decide ((k : Int) + 1 < (m : Int)) = false := dcf (by omega)
          clear hl0 hl1 hld_k
          go_quiet (fail)
          have hb5 : Below wr.heap.size wr (wr.drewN nq) := below_drewN_ (Below.refl _ _) _
          generalize wr.drewN nq = w5 at *
          clear t0
          have hs5 := hb5.size
          have HH5 : Hid (HI w5 B gh (.func (.func gc) #[] FR) (some ⟨g, 0, none⟩) cp d) := Lib.hid (HH2.out.below hb5)
          have HR : Hid (RowG encH w5 B g cp d) := Lib.hid HH5.out.row
          have HBK5 := Lib.hid (HBK.out.below hb5 hglt)
          have HB5 := Lib.hid (⟨HB.out.1.trans (hb5.mono (by omega)), HB.out.2.below hb5⟩ : _ ∧ _)
          have hglt5 : gh < w5.heap.size := by omega
          have hg5 : g < w5.heap.size := by omega
          have hl0 := fun W (hW : Below w5.heap.size w5 W) => load_l W (((HBK5.out.below hW hglt5).cell 0).trans rfl : W.cell? ⟨gh, 0, none⟩ = some (.slice (some ⟨g, 0, none⟩) m cp))
          have hl1 := fun W (hW : Below w5.heap.size w5 W) => load_f W (((HBK5.out.below hW hglt5).cell 1).trans rfl : W.cell? ⟨gh, 1, none⟩ = some (.func (.func gc) #[] FR))
          have hld_k := fun W (hW : Below w5.heap.size w5 W) => okH.ld W g (k * encH.sz) (gt d k) fun j v hv => (HR.out.below hW).cell okH (by omega) hv
          have hld_i := fun W (hW : Below w5.heap.size w5 W) => okH.ld W g (i * encH.sz) (gt d i) fun j v hv => (HR.out.below hW).cell okH (by omega) hv
          have Hask : Hid (∀ W, Below w5.heap.size w5 W → Calls Try.prog gc (#[encH.vf (gt d k), encH.vf (gt d i)] ++ FR) W fun e W' => e = .returned (.bool (lt (gt d k) (gt d i))) ∧ Below W.heap.size W W') := Lib.hid fun W hW => HA.out.call _ _ W (HKW.out _ ((hb5.mono (by omega)).trans (hW.mono (by omega))))
          have HB5r := Lib.hid hb5
          have HBX5 := Lib.hid (HBX.out.below hb5 hxlt)
          have hxlt5 := HBX5.out.lt
          clear hb5
          go_wp2_with fail
          refine wp_ask (by kernel_rfl) (by kernel_rfl) (fun q_ => (#[.pointer (some ⟨gh, 0, none⟩), .pointer (some ⟨gh, 0, none⟩), .pointer (some ⟨gh, 1, none⟩), .func (.func gc) #[] FR, .pointer (some ⟨gh, 0, none⟩), .pointer (some ⟨gh, 0, none⟩), .pointer (some ⟨gh, 0, none⟩), .slice (some ⟨g, 0, none⟩) m cp, .int .i64 ((k : Int)), .pointer (some ⟨g, (k) * encH.sz, none⟩), encH.vf (gt d (k)), .pointer (some ⟨gh, 0, none⟩), .pointer (some ⟨gh, 0, none⟩), .pointer (some ⟨gh, 0, none⟩), .slice (some ⟨g, 0, none⟩) m cp, .int .i64 ((i : Int)), .pointer (some ⟨g, (i) * encH.sz, none⟩), encH.vf (gt d (i)), .bool (lt (gt d (k)) (gt d (i))), .bool (!(lt (gt d (k)) (gt d (i))))] : Array Value).getD q_ undef) 18 _ _ (fun q_ o ho b _ => wanted_free (by kernel_rfl) ho b) ?_ Hask.out ?_ [(some 86, .pointer (some ⟨gh, 0, none⟩)), (some 87, .pointer (some ⟨gh, 0, none⟩)), (some 88, .pointer (some ⟨gh, 1, none⟩)), (some 89, .func (.func gc) #[] FR), (some 90, .pointer (some ⟨gh, 0, none⟩)), (some 91, .pointer (some ⟨gh, 0, none⟩)), (some 92, .pointer (some ⟨gh, 0, none⟩)), (some 93, .slice (some ⟨g, 0, none⟩) m cp), (some 94, .int .i64 ((k : Int))), (some 95, .pointer (some ⟨g, (k) * encH.sz, none⟩)), (some 96, encH.vf (gt d (k))), (some 97, .pointer (some ⟨gh, 0, none⟩)), (some 98, .pointer (some ⟨gh, 0, none⟩)), (some 99, .pointer (some ⟨gh, 0, none⟩)), (some 100, .slice (some ⟨g, 0, none⟩) m cp), (some 101, .int .i64 ((i : Int))), (some 102, .pointer (some ⟨g, (i) * encH.sz, none⟩)), (some 103, encH.vf (gt d (i))), (some 104, .bool (lt (gt d (k)) (gt d (i)))), (some 105, .bool (!(lt (gt d (k)) (gt d (i)))))] rfl ?_
          · intro o ho b W hev
            cases ho
            exact run_callv W 89 96 103 rfl (hev 3 89 (by kernel_rfl) rfl) (hev 10 96 (by kernel_rfl) rfl) (hev 17 103 (by kernel_rfl) rfl) (Hent.out _ _)
          · intro q_ o ho k1 b W hW hev hout
            rcases q_ with _ | _ | _ | _ | _ | _ | _ | _ | _ | _ | _ | _ | _ | _ | _ | _ | _ | _ | _ | _ | q_
            · cases ho
              exact run_move W (.tmp 0) rfl ((hout 0 (by kernel_rfl)).trans rfl)
            · cases ho
              exact run_nil W (.tmp 86) rfl (hev 0 86 (by kernel_rfl) rfl)
            · cases ho
              exact run_fa W (.tmp 87) rfl (hev 1 87 (by kernel_rfl) rfl) fa1
            · cases ho
              exact run_load (.tmp 88) rfl (hev 2 88 (by kernel_rfl) rfl) (hl1 W hW)
            · cases ho
              exact run_move W (.tmp 0) rfl ((hout 0 (by kernel_rfl)).trans rfl)
            · cases ho
              exact run_nil W (.tmp 90) rfl (hev 4 90 (by kernel_rfl) rfl)
            · cases ho
              exact run_fa W (.tmp 91) rfl (hev 5 91 (by kernel_rfl) rfl) fa0
            · cases ho
              exact run_load (.tmp 92) rfl (hev 6 92 (by kernel_rfl) rfl) (hl0 W hW)
            · cases ho
              exact run_move W (.tmp 6) rfl ((hout 6 (by kernel_rfl)).trans rfl)
            · cases ho
              exact run_idxv W (.tmp 93) (.tmp 94) rfl (hev 7 93 (by kernel_rfl) rfl) (hev 8 94 (by kernel_rfl) rfl) (idx_at W (by omega) (by omega))
            · cases ho
              exact run_load (.tmp 95) rfl (hev 9 95 (by kernel_rfl) rfl) (hld_k W hW)
            · cases ho
              exact run_move W (.tmp 0) rfl ((hout 0 (by kernel_rfl)).trans rfl)
            · cases ho
              exact run_nil W (.tmp 97) rfl (hev 11 97 (by kernel_rfl) rfl)
            · cases ho
              exact run_fa W (.tmp 98) rfl (hev 12 98 (by kernel_rfl) rfl) fa0
            · cases ho
              exact run_load (.tmp 99) rfl (hev 13 99 (by kernel_rfl) rfl) (hl0 W hW)
            · cases ho
              exact run_move W (.tmp 5) rfl ((hout 5 (by kernel_rfl)).trans rfl)
            · cases ho
              exact run_idxv W (.tmp 100) (.tmp 101) rfl (hev 14 100 (by kernel_rfl) rfl) (hev 15 101 (by kernel_rfl) rfl) (idx_at W (by omega) (by omega))
            · cases ho
              exact run_load (.tmp 102) rfl (hev 16 102 (by kernel_rfl) rfl) (hld_i W hW)
            · exact absurd rfl k1
            · cases ho
              exact run_not W (.tmp 104) rfl (hev 18 104 (by kernel_rfl) rfl)
            · cases ho
          · intro w6 hb6
            have hs6 := hb6.size
            have HR : Hid (RowG encH w6 B g cp d) := Lib.hid (HR.out.below hb6)
            have HBK6 := Lib.hid (HBK5.out.below hb6 hglt5)
            have HBX6 := Lib.hid (HBX5.out.below hb6 hxlt5)
            have HB6 := Lib.hid (⟨HB5.out.1.trans (hb6.mono (by omega)), HB5.out.2.below hb6⟩ : _ ∧ _)
            have HST : Hid (lt (gt d k) (gt d i) = false → ∀ W, Only w.heap.size w6 W → HeapR B gh (.func (.func gc) #[] FR) lt (some g) w.heap.size (cutLast dz) W) := Lib.hid fun hl W hW => HF.out _ W ((HB5r.out.trans (hb6.mono hs5))) hW fun j j0 hj hp => HO.out.neg _ _ _ (HS.out j j0 hj hp) hl
            have HNX : Hid (lt (gt d k) (gt d i) = true → Down lt (sw d i k) k) := Lib.hid fun hl => HU.out.1.step HO.out (by omega) (by omega) hk0 HKP.out hl HS.out
            simp only [putP, Exit.then, Act.put, List.setIfInBounds_toArray, List.set_cons_zero, List.set_cons_succ]
            clear hl0 hl1 hld_i hld_k Hask hb6
            cases hbc : lt (gt d k) (gt d i)
            · have HX := Lib.hid (HST.out hbc)
              clear hbc
              obtain ⟨⟨z0, z1, z2, z3, z4, z5, z6, z7, z8, z9⟩, ⟨f0, f1, f2, f3, f4, f5, f6, f7, f8, f9⟩⟩ := ten_at HBX6.out
              go_wp2
              have ho := only_ten w6 w.heap.size (.int .i64 x0.x.kind) (.int .i64 x0.x.time) (.slice x0.x.A x0.x.labs.length x0.x.cp) (.string x0.x.text) (.int .i64 x0.x.value) (.bool x0.x.null) (.int .i64 x0.x.maker) (.int .i64 x0.x.seq) (.int .i64 x0.x.place) (.slice x0.A x0.rest.length x0.cp)
              refine bodyPost_ret (results_hd rfl _ _ w.heap.size _ _ _ _ rfl rfl (blk_ten HBX6.out (.int .i64 x0.x.kind) (.int .i64 x0.x.time) (.slice x0.x.A x0.x.labs.length x0.x.cp) (.string x0.x.text) (.int .i64 x0.x.value) (.bool x0.x.null) (.int .i64 x0.x.maker) (.int .i64 x0.x.seq) (.int .i64 x0.x.place) (.slice x0.A x0.rest.length x0.cp)) Try.underlying86 rfl (by kernel_rfl)) rfl ?_
              exact ⟨rfl, HX.out _ ho, (HB4.out.trans HB6.out.1).trans (ho.below (by omega) (by omega)), (HB6.out.2).only ho (.inr (.inr (Nat.le_refl _)))⟩
            · have HX := Lib.hid (HNX.out hbc)
              clear hbc
              have hl0 := fun W (hW : Only g w6 W) => load_l W (((hW.blk HBK6.out hgne).cell 0).trans rfl : W.cell? ⟨gh, 0, none⟩ = some (.slice (some ⟨g, 0, none⟩) m cp))
              go_wp2_with fail
              refine wp_exch (by kernel_rfl) (by kernel_rfl) encH okH _ g _ _ (i) (k) (by omega) (by omega) HR.out
                (fun q_ => (#[.pointer (some ⟨gh, 0, none⟩), .pointer (some ⟨gh, 0, none⟩), .pointer (some ⟨gh, 0, none⟩), .slice (some ⟨g, 0, none⟩) m cp, .int .i64 ((i : Int)), .pointer (some ⟨gh, 0, none⟩), .pointer (some ⟨gh, 0, none⟩), .pointer (some ⟨gh, 0, none⟩), .slice (some ⟨g, 0, none⟩) m cp, .int .i64 ((k : Int)), .pointer (some ⟨gh, 0, none⟩), .pointer (some ⟨gh, 0, none⟩), .pointer (some ⟨gh, 0, none⟩), .slice (some ⟨g, 0, none⟩) m cp, .int .i64 ((k : Int)), .pointer (some ⟨g, (k) * encH.sz, none⟩), encH.vf (gt d (k)), .pointer (some ⟨gh, 0, none⟩), .pointer (some ⟨gh, 0, none⟩), .pointer (some ⟨gh, 0, none⟩), .slice (some ⟨g, 0, none⟩) m cp, .int .i64 ((i : Int)), .pointer (some ⟨g, (i) * encH.sz, none⟩), encH.vf (gt d (i)), .pointer (some ⟨g, (i) * encH.sz, none⟩), undef, .pointer (some ⟨g, (k) * encH.sz, none⟩), undef] : Array Value).getD q_ undef) 16 23 25 27 15 22 24 26 122 129 131 132 123 130 rfl rfl rfl rfl rfl rfl ⟨_, rfl, rfl⟩ ⟨_, rfl, rfl⟩ ⟨_, rfl, rfl, rfl⟩ ⟨_, rfl, rfl, rfl⟩ (by exact ⟨rfl, rfl, rfl, rfl, rfl, rfl⟩) (by kernel_rfl) (by decide) ?_ [(some 107, .pointer (some ⟨gh, 0, none⟩)), (some 108, .pointer (some ⟨gh, 0, none⟩)), (some 109, .pointer (some ⟨gh, 0, none⟩)), (some 110, .slice (some ⟨g, 0, none⟩) m cp), (some 111, .int .i64 ((i : Int))), (some 112, .pointer (some ⟨gh, 0, none⟩)), (some 113, .pointer (some ⟨gh, 0, none⟩)), (some 114, .pointer (some ⟨gh, 0, none⟩)), (some 115, .slice (some ⟨g, 0, none⟩) m cp), (some 116, .int .i64 ((k : Int))), (some 117, .pointer (some ⟨gh, 0, none⟩)), (some 118, .pointer (some ⟨gh, 0, none⟩)), (some 119, .pointer (some ⟨gh, 0, none⟩)), (some 120, .slice (some ⟨g, 0, none⟩) m cp), (some 121, .int .i64 ((k : Int))), (some 122, .pointer (some ⟨g, (k) * encH.sz, none⟩)), (some 123, encH.vf (gt d (k))), (some 124, .pointer (some ⟨gh, 0, none⟩)), (some 125, .pointer (some ⟨gh, 0, none⟩)), (some 126, .pointer (some ⟨gh, 0, none⟩)), (some 127, .slice (some ⟨g, 0, none⟩) m cp), (some 128, .int .i64 ((i : Int))), (some 129, .pointer (some ⟨g, (i) * encH.sz, none⟩)), (some 130, encH.vf (gt d (i))), (some 131, .pointer (some ⟨g, (i) * encH.sz, none⟩)), (none, undef), (some 132, .pointer (some ⟨g, (k) * encH.sz, none⟩)), (none, undef)] rfl ?_ (by exact ⟨by decide, by decide⟩)
              · intro q_ o ho k1 k2 k3 k4 b W hW hev hout
                rcases q_ with _ | _ | _ | _ | _ | _ | _ | _ | _ | _ | _ | _ | _ | _ | _ | _ | _ | _ | _ | _ | _ | _ | _ | _ | _ | _ | _ | _ | q_
                · cases ho
                  exact run_move W (.tmp 0) rfl ((hout 0 (by kernel_rfl)).trans rfl)
                · cases ho
                  exact run_nil W (.tmp 107) rfl (hev 0 107 (by kernel_rfl) (by decide) (by decide) rfl)
                · cases ho
                  exact run_fa W (.tmp 108) rfl (hev 1 108 (by kernel_rfl) (by decide) (by decide) rfl) fa0
                · cases ho
                  exact run_load (.tmp 109) rfl (hev 2 109 (by kernel_rfl) (by decide) (by decide) rfl) (hl0 W hW)
                · cases ho
                  exact run_move W (.tmp 5) rfl ((hout 5 (by kernel_rfl)).trans rfl)
                · cases ho
                  exact run_move W (.tmp 0) rfl ((hout 0 (by kernel_rfl)).trans rfl)
                · cases ho
                  exact run_nil W (.tmp 112) rfl (hev 5 112 (by kernel_rfl) (by decide) (by decide) rfl)
                · cases ho
                  exact run_fa W (.tmp 113) rfl (hev 6 113 (by kernel_rfl) (by decide) (by decide) rfl) fa0
                · cases ho
                  exact run_load (.tmp 114) rfl (hev 7 114 (by kernel_rfl) (by decide) (by decide) rfl) (hl0 W hW)
                · cases ho
                  exact run_move W (.tmp 6) rfl ((hout 6 (by kernel_rfl)).trans rfl)
                · cases ho
                  exact run_move W (.tmp 0) rfl ((hout 0 (by kernel_rfl)).trans rfl)
                · cases ho
                  exact run_nil W (.tmp 117) rfl (hev 10 117 (by kernel_rfl) (by decide) (by decide) rfl)
                · cases ho
                  exact run_fa W (.tmp 118) rfl (hev 11 118 (by kernel_rfl) (by decide) (by decide) rfl) fa0
                · cases ho
                  exact run_load (.tmp 119) rfl (hev 12 119 (by kernel_rfl) (by decide) (by decide) rfl) (hl0 W hW)
                · cases ho
                  exact run_move W (.tmp 6) rfl ((hout 6 (by kernel_rfl)).trans rfl)
                · cases ho
                  exact run_idxv W (.tmp 120) (.tmp 121) rfl (hev 13 120 (by kernel_rfl) (by decide) (by decide) rfl) (hev 14 121 (by kernel_rfl) (by decide) (by decide) rfl) (idx_at W (by omega) (by omega))
                · exact absurd rfl k1
                · cases ho
                  exact run_move W (.tmp 0) rfl ((hout 0 (by kernel_rfl)).trans rfl)
                · cases ho
                  exact run_nil W (.tmp 124) rfl (hev 17 124 (by kernel_rfl) (by decide) (by decide) rfl)
                · cases ho
                  exact run_fa W (.tmp 125) rfl (hev 18 125 (by kernel_rfl) (by decide) (by decide) rfl) fa0
                · cases ho
                  exact run_load (.tmp 126) rfl (hev 19 126 (by kernel_rfl) (by decide) (by decide) rfl) (hl0 W hW)
                · cases ho
                  exact run_move W (.tmp 5) rfl ((hout 5 (by kernel_rfl)).trans rfl)
                · cases ho
                  exact run_idxv W (.tmp 127) (.tmp 128) rfl (hev 20 127 (by kernel_rfl) (by decide) (by decide) rfl) (hev 21 128 (by kernel_rfl) (by decide) (by decide) rfl) (idx_at W (by omega) (by omega))
                · exact absurd rfl k2
                · cases ho
                  exact run_idxv W (.tmp 110) (.tmp 111) rfl (hev 3 110 (by kernel_rfl) (by decide) (by decide) rfl) (hev 4 111 (by kernel_rfl) (by decide) (by decide) rfl) (idx_at W (by omega) (by omega))
                · exact absurd rfl k3
                · cases ho
                  exact run_idxv W (.tmp 115) (.tmp 116) rfl (hev 8 115 (by kernel_rfl) (by decide) (by decide) rfl) (hev 9 116 (by kernel_rfl) (by decide) (by decide) rfl) (idx_at W (by omega) (by omega))
                · exact absurd rfl k4
                · cases ho
              · intro w7 hrow honly
                have HH7 : Hid (HI w7 B gh (.func (.func gc) #[] FR) (some ⟨g, 0, none⟩) cp (sw d i k)) := Lib.hid ⟨by rw [sw_len, HED.out]; exact honly.blk HBK6.out hgne, hlow, hrow⟩
                have HU7 := Lib.hid (⟨HX.out, (sw_perm (d := d) (p := i) (q := k) (by omega) (by omega)).trans HU.out.2⟩ : _ ∧ _)
                have HBX7 := Lib.hid (honly.blk HBX6.out hgx)
                have HB7 := Lib.hid (⟨HB6.out.1.trans (honly.below hgB (by omega)), HB6.out.2.only honly (.inr (.inl rfl))⟩ : _ ∧ _)
                have e1 : (sw d i k).length = d.length := sw_len _ _ _
                have e2 : m ≤ (sw d i k).length := by omega
                have e3 : (sw d i k).length ≤ m := by omega
                simp only [putP, Exit.then, Act.put, List.setIfInBounds_toArray, List.set_cons_zero, List.set_cons_succ]
                clear hl0 e1 hrow honly HST HNX
                generalize sw d i k = d7 at *
                go_wp2
                go_roundw
                case rel => exact ⟨k, d7, by omega, e2, e3, rfl, HH7, HU7, HB7, HBX7⟩
                case measure => simp [intOf]; omega
      · have HF2 : Hid (∀ W, Only w.heap.size wr W → HeapR B gh (.func (.func gc) #[] FR) lt (some g) w.heap.size (cutLast dz) W) := Lib.hid (fun W hW => HF.out wr W (Below.refl _ _) hW fun j j0 hj hp => by omega)
        obtain ⟨⟨z0, z1, z2, z3, z4, z5, z6, z7, z8, z9⟩, ⟨f0, f1, f2, f3, f4, f5, f6, f7, f8, f9⟩⟩ := ten_at HBX.out
        go_wp2
        have ho := only_ten wr w.heap.size (.int .i64 x0.x.kind) (.int .i64 x0.x.time) (.slice x0.x.A x0.x.labs.length x0.x.cp) (.string x0.x.text) (.int .i64 x0.x.value) (.bool x0.x.null) (.int .i64 x0.x.maker) (.int .i64 x0.x.seq) (.int .i64 x0.x.place) (.slice x0.A x0.rest.length x0.cp)
        refine bodyPost_ret (results_hd rfl _ _ w.heap.size _ _ _ _ rfl rfl (blk_ten HBX.out (.int .i64 x0.x.kind) (.int .i64 x0.x.time) (.slice x0.x.A x0.x.labs.length x0.x.cp) (.string x0.x.text) (.int .i64 x0.x.value) (.bool x0.x.null) (.int .i64 x0.x.maker) (.int .i64 x0.x.seq) (.int .i64 x0.x.place) (.slice x0.A x0.rest.length x0.cp)) Try.underlying86 rfl (by kernel_rfl)) rfl ?_
        exact ⟨rfl, HF2.out _ ho, (HB4.out.trans HB.out.1).trans (ho.below (by omega) (by omega)), (HB.out.2).only ho (.inr (.inr (Nat.le_refl _)))⟩
end Go.Proofs.Ytophfgijfmdbcaa.Hr
