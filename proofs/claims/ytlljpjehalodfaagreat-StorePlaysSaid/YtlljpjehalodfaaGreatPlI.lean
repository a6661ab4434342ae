/- The document's store: an upload completed (chapter 14). -/
import Derived.Test.YtlljpjehalodfaaGreatProg
import Derived.Test.YtlljpjehalodfaaGreatPlH
namespace Go.Proofs.YtlljpjehalodfaaGreat
open Go.RowKit
namespace Rf
open St

def matchR (n : Int) (l : List Rp) : Bs := (l.filter fun p => decide (p.n = n)).flatMap fun p => p.d
def hasR (n : Int) (l : List Rp) : Bool := l.any fun p => decide (p.n = n)
theorem matchR_snoc (n : Int) (l : List Rp) {j : Nat} (hj : j < l.length) : matchR n (l.take (j + 1)) = if (gp l j).n = n then matchR n (l.take j) ++ (gp l j).d else matchR n (l.take j) := by
  unfold matchR
  rw [List.take_succ_eq_append_getElem hj, List.filter_append, gp_eq hj]
  by_cases e : (gp l j).n = n
  · rw [if_pos e, List.filter_cons_of_pos (by simpa using e), List.flatMap_append]; simp
  · rw [if_neg e, List.filter_cons_of_neg (by simpa using e)]; simp
theorem hasR_snoc (n : Int) (l : List Rp) {j : Nat} (hj : j < l.length) : hasR n (l.take (j + 1)) = if (gp l j).n = n then true else hasR n (l.take j) := by
  unfold hasR
  rw [List.take_succ_eq_append_getElem hj, List.any_append, gp_eq hj]
  by_cases e : (gp l j).n = n
  · rw [if_pos e]; simp [e]
  · rw [if_neg e]; simp [e]
theorem matchR_aux (n : Int) : ∀ (l : List Rp), Nd (l.map Rp.pure) → (mget (l.map Rp.pure) n = none → matchR n l = [] ∧ hasR n l = false) ∧ ∀ d, mget (l.map Rp.pure) n = some d → matchR n l = d ∧ hasR n l = true
  | [], _ => And.intro (fun _ => And.intro rfl rfl) (fun d h => (by cases h))
  | p :: r, hn => by
    have hn' := List.pairwise_cons.1 hn
    obtain ⟨h1, h2⟩ := matchR_aux n r hn'.2
    rw [List.map_cons]
    by_cases e : p.n = n
    · have e' : (Rp.pure p).1 = n := e
      have h0 : mget (r.map Rp.pure) n = none := mget_none.2 fun q hq e' => hn'.1 q hq (show p.n = q.1 by rw [e, e'])
      obtain ⟨h3, h4⟩ := h1 h0
      rw [mget_cons, if_pos e']
      refine And.intro (fun h => (by cases h)) (fun d h => ?_)
      injection h with h
      have h5 : p.d = d := h
      refine ⟨?_, ?_⟩
      · unfold matchR at h3 ⊢
        rw [List.filter_cons_of_pos (by simpa using e), List.flatMap_cons, h3, List.append_nil, h5]
      · unfold hasR
        rw [List.any_cons]; simp [e]
    · have e' : ¬ (Rp.pure p).1 = n := e
      rw [mget_cons, if_neg e']
      have e1 : matchR n (p :: r) = matchR n r := by unfold matchR; rw [List.filter_cons_of_neg (by simpa using e)]
      have e2 : hasR n (p :: r) = hasR n r := by unfold hasR; rw [List.any_cons]; simp [e]
      rw [e1, e2]
      exact ⟨h1, h2⟩
theorem matchR_eq {n : Int} {l : List Rp} {m : List (Int × Bs)} (hp : (l.map Rp.pure).Perm m) (hn : Nd m) : (mget m n = none → hasR n l = false) ∧ ∀ d, mget m n = some d → matchR n l = d ∧ hasR n l = true := by
  have hnl : Nd (l.map Rp.pure) := (List.Perm.pairwise_iff (R := fun p q : Int × Bs => p.1 ≠ q.1) (fun e e' => e e'.symm) hp).2 hn
  have h := matchR_aux n l hnl
  rw [mget_perm hp hn] at h
  exact ⟨fun h0 => (h.1 h0).2, h.2⟩
theorem psrt_closed {s : PS} (h : PSrt s) (id : Int) (u : PU) : PSrt (s.closed id u) :=
  ⟨h.so, List.Pairwise.sublist List.filter_sublist h.su, fun p hp => h.sp p (mdel_sub hp)⟩
theorem RD.bytes_le {w : World} {R : RS} {A : Option Addr} {c : Nat} {d : Bs} (h : RD w R A c d) : Reads w w.heap.size 1 A d.length (d.map byteV) := h.by_.2
set_option maxRecDepth 100000 in
set_option maxHeartbeats 16000000 in
theorem completeR_calls (w : World) {base n : Nat} {R : RS} {s : PS} {x : Cl} {k : Nat} {pu : PU} (h : RAt w base R) (hS : Sim R s) (hi : PInv s n) (hs : PSrt s) (hn : n ≤ 1000) (hd : Bytes w w.heap.size x.A x.d.length x.d) (ho : Out R x.A x.d.length)
    (hk : k < s.ups.length) (hku : s.ups[k] = (x.id, pu)) (hnn : (Lit.int .i64 x.n).wf = true) :
    Calls Tryz.prog 31 #[.pointer (some ⟨R.g, 0, none⟩), .int .i64 (k : Int), x.val] w (RetR w base R (s.complete pu x.pure).1 (s.complete pu x.pure).2) := by
  have HSIM := Lib.hid hS
  have HPE : Hid (s.completeE pu x.pure = if x.n < 1 ∨ x.n ≠ (pu.parts.length : Int) then 4 else if (joinP pu.parts x.n.toNat).isSome = false then 4 else if 262144 < ((joinP pu.parts x.n.toNat).getD []).length then 5 else if s.crowded pu.key = true then 9 else 0) := Lib.hid rfl
  have HPA : Hid (s.complete pu x.pure = if s.completeE pu x.pure = 0 then ((s.closed x.id pu).made pu.key ((joinP pu.parts x.n.toNat).getD []), ⟨0, [], s.ver + 1, s.now, 0, [], false⟩) else (s, bad (s.completeE pu x.pure))) := Lib.hid rfl
  generalize s.complete pu x.pure = r at *
  generalize s.completeE pu x.pure = pe at *
  have HI := Lib.hid hi
  have HRS := Lib.hid hs
  have HF0 := (FR.start h hd ho).toX
  unfold Cl.cells rep0 at HF0
  have HF := Lib.hid HF0
  clear HF0 hd ho h
  unfold Cl.val Cl.cells
  go_enter Tryz.func31, Tryz.ntmps31
  go_upto_region 1 with fail
  generalize ((w.alloc (.cells #[.int .i64 x.kind, .string x.key, .slice x.A x.d.length x.c, .int .i64 x.ver, .int .i64 x.at_, .int .i64 x.n, .int .i64 x.id] 34)).alloc (.cells #[.int .i64 0, .slice none 0 0, .int .i64 0, .int .i64 0, .int .i64 0, .slice none 0 0, .bool false] 43)) = w2 at *
  have hsz := HF.out.size
  obtain ⟨u, hu⟩ : ∃ u, gu R.ups k = u := ⟨_, rfl⟩
  have hlen := hS.ups.len
  have hkr : k < R.ups.length := by omega
  have HSU : Hid (SimU u (x.id, pu)) := Lib.hid (by rw [← hu, ← gu_eq hkr, ← hku]; exact hS.ups.get hkr hk)
  have HRU : Hid (RU w2 R u) := Lib.hid (HF.out.at_.ru_ (hu ▸ gu_mem hkr))
  have z1 : w2.cell? ⟨R.g, 1, none⟩ = some (.slice R.AU R.ups.length R.cU) := HF.out.at_.blk.cell 1
  obtain ⟨b, off, e0, hbB, hcell⟩ := u_at HF.out.at_.u_reads hkr
  rw [hu] at hcell
  have x0 := hcell 0 _ (by omega) rfl
  have x1 := hcell 1 _ (by omega) rfl
  have x2 := hcell 2 _ (by omega) rfl
  have x3 := hcell 3 _ (by omega) rfl
  rw [Nat.add_zero] at x0
  rw [e0] at z1
  have hi0 : (0 : Int) ≤ (k : Int) := by omega
  have hi1 : (k : Int) < (R.ups.length : Int) := by omega
  have HLEN := Lib.hid hlen
  clear hcell hS hi hs hlen
  go_upto_region 2 with fail
  have HB7 := Lib.hid (Blk.new w2 74 #[.int .i64 u.id, .int .i64 u.born, .string u.key, .slice u.PA u.parts.length u.pc])
  have hb5 : Below w2.heap.size w2 (w2.alloc (.cells #[.int .i64 u.id, .int .i64 u.born, .string u.key, .slice u.PA u.parts.length u.pc] 74)) := (Below.refl _ _).alloc (Nat.le_refl _) _
  have HB25 := Lib.hid hb5
  have HF5 := Lib.hid (HF.out.on hb5)
  have HPR := Lib.hid ((HRU.out.up.1.below hb5).more hb5.size)
  clear x0 x1 x2 x3 z1 hb5 e0
  generalize w2.alloc (.cells #[.int .i64 u.id, .int .i64 u.born, .string u.key, .slice u.PA u.parts.length u.pc] 74) = w5 at *
  obtain ⟨g7, hg7⟩ : ∃ g7, w2.heap.size = g7 := ⟨_, rfl⟩
  rw [hg7] at HB7 ⊢
  have k5 : w5.cell? ⟨w.heap.size, 5, none⟩ = some (.int .i64 x.n) := HF5.out.b3.cell 5
  have u3 : w5.cell? ⟨g7, 3, none⟩ = some (.slice u.PA u.parts.length u.pc) := HB7.out.cell 3
  have hpn : u.parts.length = pu.parts.length := HSU.out.len
  have hpl : u.parts.length ≤ 1000 := by
    rw [hpn]
    have := HI.out.pn (x.id, pu) (hku ▸ List.getElem_mem hk)
    exact Nat.le_trans this hn
  have hg75 := HB7.out.lt
  by_cases h1 : x.n < 1
  · have d1 := dct h1
    have HRR : Hid (r = (s, bad 4)) := Lib.hid (by rw [HPA.out, show pe = 4 by rw [HPE.out, if_pos (.inl h1)], if_neg (by decide)])
    go_wp2_with fail
    refine (bad_calls w5 4).mono ?_
    rintro e wb ⟨rfl, hbb⟩
    have HXB := Lib.hid (HF5.out.on hbb)
    clear hbb
    unfold errV
    have q0 : wb.cell? ⟨w.heap.size + 1, 0, none⟩ = some (.int .i64 0) := HXB.out.b4.cell 0
    have p0 : wb.frozen? ⟨w.heap.size + 1, 0, none⟩ = false := HXB.out.b4.frozen 0
    have q1 : wb.cell? ⟨w.heap.size + 1, 1, none⟩ = some (.slice none 0 0) := HXB.out.b4.cell 1
    have p1 : wb.frozen? ⟨w.heap.size + 1, 1, none⟩ = false := HXB.out.b4.frozen 1
    have q2 : wb.cell? ⟨w.heap.size + 1, 2, none⟩ = some (.int .i64 0) := HXB.out.b4.cell 2
    have p2 : wb.frozen? ⟨w.heap.size + 1, 2, none⟩ = false := HXB.out.b4.frozen 2
    have q3 : wb.cell? ⟨w.heap.size + 1, 3, none⟩ = some (.int .i64 0) := HXB.out.b4.cell 3
    have p3 : wb.frozen? ⟨w.heap.size + 1, 3, none⟩ = false := HXB.out.b4.frozen 3
    have q4 : wb.cell? ⟨w.heap.size + 1, 4, none⟩ = some (.int .i64 0) := HXB.out.b4.cell 4
    have p4 : wb.frozen? ⟨w.heap.size + 1, 4, none⟩ = false := HXB.out.b4.frozen 4
    have q5 : wb.cell? ⟨w.heap.size + 1, 5, none⟩ = some (.slice none 0 0) := HXB.out.b4.cell 5
    have p5 : wb.frozen? ⟨w.heap.size + 1, 5, none⟩ = false := HXB.out.b4.frozen 5
    have q6 : wb.cell? ⟨w.heap.size + 1, 6, none⟩ = some (.bool false) := HXB.out.b4.cell 6
    have p6 : wb.frozen? ⟨w.heap.size + 1, 6, none⟩ = false := HXB.out.b4.frozen 6
    go_wp2
    obtain ⟨hw, hT, hK⟩ := HXB.out.fin (.int .i64 4) (.slice none 0 0) (.int .i64 0) (.int .i64 0) (.int .i64 0) (.slice none 0 0) (.bool false)
    unfold set7 at hw hT hK
    refine bodyPost_ret (results_cell_row rfl _ _ (w.heap.size + 1) 43 #[(.int .i64 4), (.slice none 0 0), (.int .i64 0), (.int .i64 0), (.int .i64 0), (.slice none 0 0), (.bool false)] (0, 0) _ rfl hw Tryz.underlying43 rfl (by kernel_rfl)) rfl ?_
    exact ⟨_, _, rfl, by rw [HRR.out]; exact rep_plain 4 0 0 0, hT, by rw [HRR.out]; exact HSIM.out⟩
  have d1 := dcf h1
  by_cases h2 : x.n ≠ (u.parts.length : Int)
  · have d2 := net h2
    have HRR : Hid (r = (s, bad 4)) := Lib.hid (by rw [HPA.out, show pe = 4 by rw [HPE.out, if_pos (.inr (by rw [← hpn]; exact h2))], if_neg (by decide)])
    go_wp2_with fail
    refine (bad_calls w5 4).mono ?_
    rintro e wb ⟨rfl, hbb⟩
    have HXB := Lib.hid (HF5.out.on hbb)
    clear hbb
    unfold errV
    have q0 : wb.cell? ⟨w.heap.size + 1, 0, none⟩ = some (.int .i64 0) := HXB.out.b4.cell 0
    have p0 : wb.frozen? ⟨w.heap.size + 1, 0, none⟩ = false := HXB.out.b4.frozen 0
    have q1 : wb.cell? ⟨w.heap.size + 1, 1, none⟩ = some (.slice none 0 0) := HXB.out.b4.cell 1
    have p1 : wb.frozen? ⟨w.heap.size + 1, 1, none⟩ = false := HXB.out.b4.frozen 1
    have q2 : wb.cell? ⟨w.heap.size + 1, 2, none⟩ = some (.int .i64 0) := HXB.out.b4.cell 2
    have p2 : wb.frozen? ⟨w.heap.size + 1, 2, none⟩ = false := HXB.out.b4.frozen 2
    have q3 : wb.cell? ⟨w.heap.size + 1, 3, none⟩ = some (.int .i64 0) := HXB.out.b4.cell 3
    have p3 : wb.frozen? ⟨w.heap.size + 1, 3, none⟩ = false := HXB.out.b4.frozen 3
    have q4 : wb.cell? ⟨w.heap.size + 1, 4, none⟩ = some (.int .i64 0) := HXB.out.b4.cell 4
    have p4 : wb.frozen? ⟨w.heap.size + 1, 4, none⟩ = false := HXB.out.b4.frozen 4
    have q5 : wb.cell? ⟨w.heap.size + 1, 5, none⟩ = some (.slice none 0 0) := HXB.out.b4.cell 5
    have p5 : wb.frozen? ⟨w.heap.size + 1, 5, none⟩ = false := HXB.out.b4.frozen 5
    have q6 : wb.cell? ⟨w.heap.size + 1, 6, none⟩ = some (.bool false) := HXB.out.b4.cell 6
    have p6 : wb.frozen? ⟨w.heap.size + 1, 6, none⟩ = false := HXB.out.b4.frozen 6
    go_wp2
    obtain ⟨hw, hT, hK⟩ := HXB.out.fin (.int .i64 4) (.slice none 0 0) (.int .i64 0) (.int .i64 0) (.int .i64 0) (.slice none 0 0) (.bool false)
    unfold set7 at hw hT hK
    refine bodyPost_ret (results_cell_row rfl _ _ (w.heap.size + 1) 43 #[(.int .i64 4), (.slice none 0 0), (.int .i64 0), (.int .i64 0), (.int .i64 0), (.slice none 0 0), (.bool false)] (0, 0) _ rfl hw Tryz.underlying43 rfl (by kernel_rfl)) rfl ?_
    exact ⟨_, _, rfl, by rw [HRR.out]; exact rep_plain 4 0 0 0, hT, by rw [HRR.out]; exact HSIM.out⟩
  have h2' : x.n = (u.parts.length : Int) := Decidable.not_not.1 h2
  have d2 := nef h2'
  have HN12 : Hid (¬ (x.n < 1 ∨ x.n ≠ (pu.parts.length : Int))) := Lib.hid (by omega)
  obtain ⟨N, hN⟩ : ∃ N : Nat, x.n = (N : Int) := ⟨x.n.toNat, by omega⟩
  have hN9 : N ≤ 1000 := by omega
  have HNT : Hid (x.n.toNat = N) := Lib.hid (by omega)
  have HNN := Lib.hid hN
  clear h2 h2' hpn hN
  go_upto_region 4 with fail
  clear d1 d2
  have HO0 : Hid ((w5.alloc (.cells #[] 5)).ownsRow w5.heap.size 5 1 (.slice (some ⟨w5.heap.size, 0, none⟩) 0 0) 0 []) := Lib.hid (World.ownsRow_made w5 #[] 0 (Nat.le_refl _) (Nat.zero_le _) rfl)
  have HW6 : Hid (Below w5.heap.size w5 (w5.alloc (.cells #[] 5))) := Lib.hid ((Below.refl _ _).alloc (Nat.le_refl _) _)
  have hndp : Nd pu.parts := HRS.out.ndp (p := (x.id, pu)) (hku ▸ List.getElem_mem hk)
  have HND := Lib.hid hndp
  have HPD : Hid (∀ p ∈ u.parts, p.d.length ≤ 262144) := Lib.hid fun p hp => by
    have h1 : Rp.pure p ∈ pu.parts := HSU.out.parts.mem_iff.1 (List.mem_map.2 ⟨p, hp, rfl⟩)
    exact HI.out.pd (x.id, pu) (hku ▸ List.getElem_mem hk) _ h1
  clear hndp k5 u3
  go_wp2
  go_loopw [8, 9] (fun s8 s9 wr => ∃ (j : Nat) (dj : Bs) (A8 : Option Addr) (c8 : Nat), j ≤ N ∧ s8 = .slice A8 dj.length c8 ∧ s9 = .int .i64 ((j : Int) + 1) ∧ Hid (wr.ownsRow w5.heap.size 5 1 (.slice A8 dj.length c8) dj.length (dj.map byteV)) ∧ Hid (joinP pu.parts j = some dj) ∧ dj.length ≤ j * 262144 ∧ Hid (Below w5.heap.size w5 wr)) (fun _ i _ => (N + 1 - (intOf i).toNat))
  case atStart => exact ⟨0, [], _, _, Nat.zero_le _, rfl, rfl, HO0, Lib.hid rfl, Nat.zero_le _, HW6⟩
  case round =>
    obtain ⟨j, dj, A8, c8, hj, rfl, rfl, HO, HJ, hdj, HW⟩ := hrel
    obtain ⟨wi, rfl⟩ : ∃ wi : World, wi = wr := ⟨_, rfl⟩
    have k5 : wi.cell? ⟨w.heap.size, 5, none⟩ = some (.int .i64 x.n) := by exact (HF5.out.on HW.out).b3.cell 5
    have hle := HW.out.size
    have hsz5 := HF5.out.size
    have hNx := HNN.out
    by_cases hlt : j < N
    · have d1 : decide ((j : Int) + 1 ≤ x.n) = true := dct (by omega)
      have hj9 : (j : Int) + 1 ≤ 1000 := by omega
      clear hNx
      have u3 : wi.cell? ⟨g7, 3, none⟩ = some (.slice u.PA u.parts.length u.pc) := (HB7.out.below HW.out hg75).cell 3
      go_wp2
      clear u3 d1 k5
      go_loopw [8, 10, 42] (fun s8 s10 s42 wr => ∃ (i : Nat) (D : Bs) (A9 : Option Addr) (c9 : Nat) (th : Bool), i ≤ u.parts.length ∧ s8 = .slice A9 D.length c9 ∧ s10 = .bool th ∧ s42 = .int .i64 (i : Int) ∧ Hid (th = hasR ((j : Int) + 1) (u.parts.take i)) ∧ Hid (D = dj ++ matchR ((j : Int) + 1) (u.parts.take i)) ∧ D.length ≤ dj.length + i * 262144 ∧ Hid (wr.ownsRow w5.heap.size 5 1 (.slice A9 D.length c9) D.length (D.map byteV)) ∧ Hid (Below w5.heap.size w5 wr)) (fun _ _ i _ => u.parts.length - (intOf i).toNat)
      case atStart => exact ⟨0, dj, A8, c8, false, Nat.zero_le _, rfl, rfl, rfl, Lib.hid rfl, Lib.hid (List.append_nil dj).symm, Nat.le_add_right _ _, HO, HW⟩
      case round =>
        clear HO HW hle
        obtain ⟨i, D, A9, c9, th, hi9, rfl, rfl, rfl, HTH, HD, hDl, HO, HW⟩ := hrel
        obtain ⟨wj, rfl⟩ : ∃ wj : World, wj = wr := ⟨_, rfl⟩
        have hle := HW.out.size
        by_cases hlt2 : i < u.parts.length
        · have d1 : decide ((i : Int) < (u.parts.length : Int)) = true := dct (by omega)
          obtain ⟨b', off', e', hbB', hcell⟩ := p_at (HPR.out.below HW.out) hlt2
          have x0 := hcell 0 _ (by omega) rfl
          have x1 := hcell 1 _ (by omega) rfl
          rw [Nat.add_zero] at x0
          have hi0' : (0 : Int) ≤ (i : Int) := by omega
          have hi1' : (i : Int) < (u.parts.length : Int) := by omega
          have HH := Lib.hid (hasR_snoc ((j : Int) + 1) u.parts hlt2)
          have HM := Lib.hid (matchR_snoc ((j : Int) + 1) u.parts hlt2)
          have HYB := Lib.hid ((((HRU.out.ud _ (gp_mem hlt2)).by_.2.below HB25.out).more HB25.out.size).below HW.out)
          have hyl := HPD.out _ (gp_mem hlt2)
          rw [e']
          clear hcell
          generalize gp u.parts i = y at *
          go_upto_region 12 with fail
          have HB9 := Lib.hid (Blk.new wj 90 #[.int .i64 y.n, .slice y.A y.d.length y.c])
          have hb9 : Below wj.heap.size wj (wj.alloc (.cells #[.int .i64 y.n, .slice y.A y.d.length y.c] 90)) := (Below.refl _ _).alloc (Nat.le_refl _) _
          have HW9 := Lib.hid (HW.out.trans (hb9.mono hle))
          have HO9 := Lib.hid (own_below HO.out hb9)
          have HYB9 := Lib.hid (HYB.out.below (hb9.mono hle))
          clear x0 x1 hb9 HO HW HYB
          generalize wj.alloc (.cells #[.int .i64 y.n, .slice y.A y.d.length y.c] 90) = w9 at *
          obtain ⟨g9, hg9⟩ : ∃ g9, wj.heap.size = g9 := ⟨_, rfl⟩
          rw [hg9] at HB9 ⊢
          have y0 : w9.cell? ⟨g9, 0, none⟩ = some (.int .i64 y.n) := HB9.out.cell 0
          have y1 : w9.cell? ⟨g9, 1, none⟩ = some (.slice y.A y.d.length y.c) := HB9.out.cell 1
          by_cases hq : y.n = (j : Int) + 1
          · have d2 := eqt hq
            have hle9 := HW9.out.size
            have HQ := Lib.hid hq
            clear hq
            go_wp2_with (at_builtin; go_must (refine wpList_append_sl _ rfl (.tmp 50) (.tmp 52) _ rfl w5.heap.size 5 _ 1 1 Tryz.underlying32 Tryz.infoU8s rfl (by omega) _ _ _ rfl HO9.out w5.heap.size y.A y.d.length y.c (y.d.map byteV) rfl HYB9.out (byteV_one y.d) (by unfold maxLen; omega) (by omega) hle9 ?_))
            intro A10 c10 w10 hc101 hc102 hrd10 hbel10 hown10 _ _
            have HO10 : Hid (w10.ownsRow w5.heap.size 5 1 (.slice A10 (D ++ y.d).length c10) (D ++ y.d).length ((D ++ y.d).map byteV)) := Lib.hid (by rw [List.map_append, List.length_append]; exact hown10)
            have HW10 := Lib.hid (HW9.out.trans hbel10)
            clear hc101 hc102 hrd10 hbel10 hown10
            go_wp2
            go_roundw
            case rel => exact ⟨i + 1, D ++ y.d, A10, c10, true, by omega, by rw [List.length_append], rfl, by go_num, Lib.hid (by rw [HH.out, if_pos HQ.out]), Lib.hid (by rw [HM.out, if_pos HQ.out, HD.out, List.append_assoc]), by rw [List.length_append]; omega, HO10, HW10⟩
            case measure => simp [intOf]; omega
          · have d2 := eqf hq
            go_wp2
            go_roundw
            case rel => exact ⟨i + 1, D, A9, c9, th, by omega, rfl, rfl, by go_num, Lib.hid (by rw [HH.out, if_neg hq, HTH.out]), Lib.hid (by rw [HM.out, if_neg hq, HD.out]), Nat.le_trans hDl (Nat.add_le_add_left (Nat.mul_le_mul_right _ (Nat.le_succ i)) _), HO9, HW9⟩
            case measure => simp [intOf]; omega
        · obtain rfl : i = u.parts.length := by omega
          have d1 : decide ((u.parts.length : Int) < (u.parts.length : Int)) = false := dcf (by omega)
          rw [List.take_length] at HTH HD
          obtain ⟨hm0, hm1⟩ := matchR_eq (n := (j : Int) + 1) HSU.out.parts HND.out
          have HFi := Lib.hid (HF5.out.on HW.out)
          cases hmg : mget pu.parts ((j : Int) + 1) with
          | none =>
            have HPJ : Hid (joinP pu.parts N = none) := Lib.hid (by
              have h1 := joinP_miss hmg
              have h2 := joinP_none h1 (N - (j + 1))
              rwa [show j + 1 + (N - (j + 1)) = N by omega] at h2)
            have HRR : Hid (r = (s, bad 4)) := Lib.hid (by rw [HPA.out, show pe = 4 by rw [HPE.out, if_neg HN12.out, if_pos (by rw [HNT.out, HPJ.out]; rfl)], if_neg (by decide)])
            have hth : th = false := by rw [HTH.out]; exact hm0 hmg
            subst hth
            clear hm0 hm1 hmg HPJ
            go_wp2_with fail
            refine (bad_calls wj 4).mono ?_
            rintro e wb ⟨rfl, hbb⟩
            have HXB := Lib.hid (HFi.out.on hbb)
            clear hbb
            unfold errV
            have q0 : wb.cell? ⟨w.heap.size + 1, 0, none⟩ = some (.int .i64 0) := HXB.out.b4.cell 0
            have p0 : wb.frozen? ⟨w.heap.size + 1, 0, none⟩ = false := HXB.out.b4.frozen 0
            have q1 : wb.cell? ⟨w.heap.size + 1, 1, none⟩ = some (.slice none 0 0) := HXB.out.b4.cell 1
            have p1 : wb.frozen? ⟨w.heap.size + 1, 1, none⟩ = false := HXB.out.b4.frozen 1
            have q2 : wb.cell? ⟨w.heap.size + 1, 2, none⟩ = some (.int .i64 0) := HXB.out.b4.cell 2
            have p2 : wb.frozen? ⟨w.heap.size + 1, 2, none⟩ = false := HXB.out.b4.frozen 2
            have q3 : wb.cell? ⟨w.heap.size + 1, 3, none⟩ = some (.int .i64 0) := HXB.out.b4.cell 3
            have p3 : wb.frozen? ⟨w.heap.size + 1, 3, none⟩ = false := HXB.out.b4.frozen 3
            have q4 : wb.cell? ⟨w.heap.size + 1, 4, none⟩ = some (.int .i64 0) := HXB.out.b4.cell 4
            have p4 : wb.frozen? ⟨w.heap.size + 1, 4, none⟩ = false := HXB.out.b4.frozen 4
            have q5 : wb.cell? ⟨w.heap.size + 1, 5, none⟩ = some (.slice none 0 0) := HXB.out.b4.cell 5
            have p5 : wb.frozen? ⟨w.heap.size + 1, 5, none⟩ = false := HXB.out.b4.frozen 5
            have q6 : wb.cell? ⟨w.heap.size + 1, 6, none⟩ = some (.bool false) := HXB.out.b4.cell 6
            have p6 : wb.frozen? ⟨w.heap.size + 1, 6, none⟩ = false := HXB.out.b4.frozen 6
            go_wp2
            obtain ⟨hw, hT, hK⟩ := HXB.out.fin (.int .i64 4) (.slice none 0 0) (.int .i64 0) (.int .i64 0) (.int .i64 0) (.slice none 0 0) (.bool false)
            unfold set7 at hw hT hK
            refine bodyPost_ret (results_cell_row rfl _ _ (w.heap.size + 1) 43 #[(.int .i64 4), (.slice none 0 0), (.int .i64 0), (.int .i64 0), (.int .i64 0), (.slice none 0 0), (.bool false)] (0, 0) _ rfl hw Tryz.underlying43 rfl (by kernel_rfl)) rfl ?_
            exact ⟨_, _, rfl, by rw [HRR.out]; exact rep_plain 4 0 0 0, hT, by rw [HRR.out]; exact HSIM.out⟩
          | some d =>
            obtain ⟨hm2, hm3⟩ := hm1 d hmg
            have hth : th = true := by rw [HTH.out]; exact hm3
            have hdl : d.length ≤ 262144 := HI.out.pd (x.id, pu) (hku ▸ List.getElem_mem hk) _ (mget_mem hmg)
            have HJ' : Hid (joinP pu.parts (j + 1) = some D) := Lib.hid (by rw [HD.out, hm2]; exact joinP_some HJ.out hmg)
            have hDl' : D.length ≤ (j + 1) * 262144 := by rw [HD.out, hm2, List.length_append]; omega
            subst hth
            clear hm0 hm1 hm2 hm3 hmg HD HTH HFi hdl
            go_wp2
            go_roundw
            case rel => exact ⟨j + 1, D, A9, c9, by omega, rfl, by go_num, HO, HJ', hDl', HW⟩
            case measure => simp [intOf]; omega
    · obtain rfl : j = N := by omega
      have d1 : decide ((j : Int) + 1 ≤ x.n) = false := dcf (by omega)
      have HFi := Lib.hid (HF5.out.on HW.out)
      have HB7i := Lib.hid (HB7.out.below HW.out hg75)
      have HJX : Hid ((joinP pu.parts x.n.toNat).isSome = true ∧ (joinP pu.parts x.n.toNat).getD [] = dj) := Lib.hid (by rw [HNT.out, HJ.out]; exact ⟨rfl, rfl⟩)
      have hkey : u.key = pu.key := HSU.out.key
      have HKEY := Lib.hid hkey
      have hdj9 : dj.length ≤ 262144000 := by omega
      clear hNx hkey hlt
      by_cases hlong : 262144 < dj.length
      · have d2 : decide ((262144 : Int) < (dj.length : Int)) = true := dct (by omega)
        have HRR : Hid (r = (s, bad 5)) := Lib.hid (by rw [HPA.out, show pe = 5 by rw [HPE.out, if_neg HN12.out, if_neg (by rw [HJX.out.1]; decide), HJX.out.2, if_pos hlong], if_neg (by decide)])
        clear hlong
        go_wp2_with fail
        refine (bad_calls wi 5).mono ?_
        rintro e wb ⟨rfl, hbb⟩
        have HXB := Lib.hid (HFi.out.on hbb)
        clear hbb
        unfold errV
        have q0 : wb.cell? ⟨w.heap.size + 1, 0, none⟩ = some (.int .i64 0) := HXB.out.b4.cell 0
        have p0 : wb.frozen? ⟨w.heap.size + 1, 0, none⟩ = false := HXB.out.b4.frozen 0
        have q1 : wb.cell? ⟨w.heap.size + 1, 1, none⟩ = some (.slice none 0 0) := HXB.out.b4.cell 1
        have p1 : wb.frozen? ⟨w.heap.size + 1, 1, none⟩ = false := HXB.out.b4.frozen 1
        have q2 : wb.cell? ⟨w.heap.size + 1, 2, none⟩ = some (.int .i64 0) := HXB.out.b4.cell 2
        have p2 : wb.frozen? ⟨w.heap.size + 1, 2, none⟩ = false := HXB.out.b4.frozen 2
        have q3 : wb.cell? ⟨w.heap.size + 1, 3, none⟩ = some (.int .i64 0) := HXB.out.b4.cell 3
        have p3 : wb.frozen? ⟨w.heap.size + 1, 3, none⟩ = false := HXB.out.b4.frozen 3
        have q4 : wb.cell? ⟨w.heap.size + 1, 4, none⟩ = some (.int .i64 0) := HXB.out.b4.cell 4
        have p4 : wb.frozen? ⟨w.heap.size + 1, 4, none⟩ = false := HXB.out.b4.frozen 4
        have q5 : wb.cell? ⟨w.heap.size + 1, 5, none⟩ = some (.slice none 0 0) := HXB.out.b4.cell 5
        have p5 : wb.frozen? ⟨w.heap.size + 1, 5, none⟩ = false := HXB.out.b4.frozen 5
        have q6 : wb.cell? ⟨w.heap.size + 1, 6, none⟩ = some (.bool false) := HXB.out.b4.cell 6
        have p6 : wb.frozen? ⟨w.heap.size + 1, 6, none⟩ = false := HXB.out.b4.frozen 6
        go_wp2
        obtain ⟨hw, hT, hK⟩ := HXB.out.fin (.int .i64 5) (.slice none 0 0) (.int .i64 0) (.int .i64 0) (.int .i64 0) (.slice none 0 0) (.bool false)
        unfold set7 at hw hT hK
        refine bodyPost_ret (results_cell_row rfl _ _ (w.heap.size + 1) 43 #[(.int .i64 5), (.slice none 0 0), (.int .i64 0), (.int .i64 0), (.int .i64 0), (.slice none 0 0), (.bool false)] (0, 0) _ rfl hw Tryz.underlying43 rfl (by kernel_rfl)) rfl ?_
        exact ⟨_, _, rfl, by rw [HRR.out]; exact rep_plain 5 0 0 0, hT, by rw [HRR.out]; exact HSIM.out⟩
      have d2 : decide ((262144 : Int) < (dj.length : Int)) = false := dcf (by omega)
      have HON : Hid (R.objs.length = s.objs.length) := Lib.hid HSIM.out.olen
      have hol : R.objs.length ≤ 1000 := by rw [HON.out]; exact Nat.le_trans HI.out.on hn
      have HAT : Hid (Calls Tryz.prog 23 #[.pointer (some ⟨R.g, 0, none⟩), .string u.key] wi fun e w' => e = .returned (.int .i64 (R.idxO u.key)) ∧ wi = w') := Lib.hid (at_calls wi HFi.out.at_ (Nat.le_trans hol (by omega)) u.key)
      have u2 : wi.cell? ⟨g7, 2, none⟩ = some (.string u.key) := HB7i.out.cell 2
      have z0 : wi.cell? ⟨R.g, 0, none⟩ = some (.slice R.AO R.objs.length R.cO) := HFi.out.at_.blk.cell 0
      have HIX := Lib.hid (HSIM.out.idxO HRS.out u.key)
      generalize hix : R.idxO u.key = ix at *
      clear hix
      have hsm : (ix = -1 ∧ (mget s.objs u.key).isSome = false) ∨ (0 ≤ ix ∧ (mget s.objs u.key).isSome = true) := by
        rcases HIX.out with ⟨h3, h4⟩ | ⟨i, h3, h4, h5, h6⟩
        · exact .inl ⟨h3, by rw [h4]; rfl⟩
        · exact .inr ⟨by omega, by rw [h5]; rfl⟩
      have HSM := Lib.hid hsm
      clear hsm HIX
      by_cases hneg : ix < 0
      · have d3 := dct hneg
        have hsm : (mget s.objs u.key).isSome = false := by
          rcases HSM.out with h | h
          · exact h.2
          · omega
        have HSF := Lib.hid hsm
        clear hneg hsm
        by_cases hfull : 512 ≤ R.objs.length
        · have d4 : decide ((512 : Int) ≤ (R.objs.length : Int)) = true := dct (by omega)
          have HRR : Hid (r = (s, bad 9)) := Lib.hid (by rw [HPA.out, show pe = 9 by rw [HPE.out, if_neg HN12.out, if_neg (by rw [HJX.out.1]; decide), HJX.out.2, if_neg hlong, if_pos (by unfold PS.crowded; rw [← HKEY.out, HSF.out, ← HON.out, dct hfull]; rfl)], if_neg (by decide)])
          clear hfull hlong
          go_upto_region 20 with fail
          clear d2
          go_wp2_with fail
          refine HAT.out.mono ?_
          rintro e w8 ⟨rfl, rfl⟩
          clear HAT
          go_wp2_with fail
          refine (bad_calls wi 9).mono ?_
          rintro e wb ⟨rfl, hbb⟩
          have HXB := Lib.hid (HFi.out.on hbb)
          clear hbb
          unfold errV
          have q0 : wb.cell? ⟨w.heap.size + 1, 0, none⟩ = some (.int .i64 0) := HXB.out.b4.cell 0
          have p0 : wb.frozen? ⟨w.heap.size + 1, 0, none⟩ = false := HXB.out.b4.frozen 0
          have q1 : wb.cell? ⟨w.heap.size + 1, 1, none⟩ = some (.slice none 0 0) := HXB.out.b4.cell 1
          have p1 : wb.frozen? ⟨w.heap.size + 1, 1, none⟩ = false := HXB.out.b4.frozen 1
          have q2 : wb.cell? ⟨w.heap.size + 1, 2, none⟩ = some (.int .i64 0) := HXB.out.b4.cell 2
          have p2 : wb.frozen? ⟨w.heap.size + 1, 2, none⟩ = false := HXB.out.b4.frozen 2
          have q3 : wb.cell? ⟨w.heap.size + 1, 3, none⟩ = some (.int .i64 0) := HXB.out.b4.cell 3
          have p3 : wb.frozen? ⟨w.heap.size + 1, 3, none⟩ = false := HXB.out.b4.frozen 3
          have q4 : wb.cell? ⟨w.heap.size + 1, 4, none⟩ = some (.int .i64 0) := HXB.out.b4.cell 4
          have p4 : wb.frozen? ⟨w.heap.size + 1, 4, none⟩ = false := HXB.out.b4.frozen 4
          have q5 : wb.cell? ⟨w.heap.size + 1, 5, none⟩ = some (.slice none 0 0) := HXB.out.b4.cell 5
          have p5 : wb.frozen? ⟨w.heap.size + 1, 5, none⟩ = false := HXB.out.b4.frozen 5
          have q6 : wb.cell? ⟨w.heap.size + 1, 6, none⟩ = some (.bool false) := HXB.out.b4.cell 6
          have p6 : wb.frozen? ⟨w.heap.size + 1, 6, none⟩ = false := HXB.out.b4.frozen 6
          go_wp2
          obtain ⟨hw, hT, hK⟩ := HXB.out.fin (.int .i64 9) (.slice none 0 0) (.int .i64 0) (.int .i64 0) (.int .i64 0) (.slice none 0 0) (.bool false)
          unfold set7 at hw hT hK
          refine bodyPost_ret (results_cell_row rfl _ _ (w.heap.size + 1) 43 #[(.int .i64 9), (.slice none 0 0), (.int .i64 0), (.int .i64 0), (.int .i64 0), (.slice none 0 0), (.bool false)] (0, 0) _ rfl hw Tryz.underlying43 rfl (by kernel_rfl)) rfl ?_
          exact ⟨_, _, rfl, by rw [HRR.out]; exact rep_plain 9 0 0 0, hT, by rw [HRR.out]; exact HSIM.out⟩
        · have d4 : decide ((512 : Int) ≤ (R.objs.length : Int)) = false := dcf (by omega)
          have HRR : Hid (r = ((s.closed x.id pu).made pu.key dj, ⟨0, [], s.ver + 1, s.now, 0, [], false⟩)) := Lib.hid (by rw [HPA.out, HJX.out.2, show pe = 0 by rw [HPE.out, if_neg HN12.out, if_neg (by rw [HJX.out.1]; decide), HJX.out.2, if_neg hlong, if_neg (by unfold PS.crowded; rw [← HKEY.out, HSF.out, ← HON.out, dcf hfull]; simp)], if_pos rfl])
          clear hfull hlong
          go_upto_region 20 with fail
          clear d2
          go_wp2_with fail
          refine HAT.out.mono ?_
          rintro e w8 ⟨rfl, rfl⟩
          clear HAT
          have HDC := Lib.hid (drop_calls wi HFi.out.at_ hkr (Nat.le_of_lt (by rw [HLEN.out]; have := HI.out.un; omega)))
          go_upto_region 22 with fail
          clear z0 u2
          go_wp2_with fail
          refine HDC.out.mono ?_
          rintro e w10 ⟨rfl, AU', cU', hT⟩
          have HXD := Lib.hid (HFi.out.go hT)
          have hf2 := HF.out.fr.foot
          have h25 := HB25.out.size
          have HB7d := Lib.hid (hT.keep.blk HB7i.out (fun hf => by have := hf2 _ hf; omega))
          have HOd := Lib.hid (own_apart HO.out hT.keep (fun i hi hf => by have h1 := (HO.out.lt i hi).1; have := hf2 _ hf; omega))
          have hs10 := hT.keep.size
          have HOUT : Hid (Out { R with ups := R.ups.take k ++ R.ups.drop (k + 1), AU := AU', cU := cU' } A8 dj.length) := Lib.hid (fun hn' a ha hf => by
            have h1 := HO.out.lt a.block (by rw [ha]; rfl)
            rcases hT.grew _ hf with h3 | h3
            · have := hf2 _ h3; omega
            · omega)
          have u2 : w10.cell? ⟨g7, 2, none⟩ = some (.string u.key) := HB7d.out.cell 2
          have hv0 : 0 ≤ R.ver := by rw [HSIM.out.ver]; exact HI.out.v0
          have hv1 : R.ver ≤ 1000000 := by rw [HSIM.out.ver]; have := HI.out.v1; omega
          have HPC := Lib.hid (putR_calls (c := c8) w10 HXD.out.at_ (by exact Nat.le_trans hol (by omega)) u.key (own_bytes HOd.out) (Nat.le_refl _) HOUT.out (by omega) hv0 hv1)
          clear HDC hT
          go_wp2_with fail
          refine HPC.out.mono ?_
          rintro e w11 ⟨rfl, A', c', AO', cO', hT2⟩
          have HXZ := Lib.hid (HXD.out.go hT2)
          have HSI : Hid (Sim _ _) := Lib.hid ((HSIM.out.dropU HRS.out hk (by rw [hku]) (s.all - (pu.sum : Int)) AU' cU').put (k := u.key) (psrt_closed HRS.out x.id pu) A' c' dj AO' cO')
          have HVN := Lib.hid (And.intro HSIM.out.ver HSIM.out.now)
          clear HPC hT2 u2 HXD
          have q0 : w11.cell? ⟨w.heap.size + 1, 0, none⟩ = some (.int .i64 0) := HXZ.out.b4.cell 0
          have p0 : w11.frozen? ⟨w.heap.size + 1, 0, none⟩ = false := HXZ.out.b4.frozen 0
          have q1 : w11.cell? ⟨w.heap.size + 1, 1, none⟩ = some (.slice none 0 0) := HXZ.out.b4.cell 1
          have p1 : w11.frozen? ⟨w.heap.size + 1, 1, none⟩ = false := HXZ.out.b4.frozen 1
          have q2 : w11.cell? ⟨w.heap.size + 1, 2, none⟩ = some (.int .i64 0) := HXZ.out.b4.cell 2
          have p2 : w11.frozen? ⟨w.heap.size + 1, 2, none⟩ = false := HXZ.out.b4.frozen 2
          have q3 : w11.cell? ⟨w.heap.size + 1, 3, none⟩ = some (.int .i64 0) := HXZ.out.b4.cell 3
          have p3 : w11.frozen? ⟨w.heap.size + 1, 3, none⟩ = false := HXZ.out.b4.frozen 3
          have q4 : w11.cell? ⟨w.heap.size + 1, 4, none⟩ = some (.int .i64 0) := HXZ.out.b4.cell 4
          have p4 : w11.frozen? ⟨w.heap.size + 1, 4, none⟩ = false := HXZ.out.b4.frozen 4
          have q5 : w11.cell? ⟨w.heap.size + 1, 5, none⟩ = some (.slice none 0 0) := HXZ.out.b4.cell 5
          have p5 : w11.frozen? ⟨w.heap.size + 1, 5, none⟩ = false := HXZ.out.b4.frozen 5
          have q6 : w11.cell? ⟨w.heap.size + 1, 6, none⟩ = some (.bool false) := HXZ.out.b4.cell 6
          have p6 : w11.frozen? ⟨w.heap.size + 1, 6, none⟩ = false := HXZ.out.b4.frozen 6
          go_wp2
          obtain ⟨hw, hT, hK⟩ := HXZ.out.fin (.int .i64 0) (.slice none 0 0) (.int .i64 (R.ver + 1)) (.int .i64 R.now) (.int .i64 0) (.slice none 0 0) (.bool false)
          unfold set7 at hw hT hK
          refine bodyPost_ret (results_cell_row rfl _ _ (w.heap.size + 1) 43 #[(.int .i64 0), (.slice none 0 0), (.int .i64 (R.ver + 1)), (.int .i64 R.now), (.int .i64 0), (.slice none 0 0), (.bool false)] (0, 0) _ rfl hw Tryz.underlying43 rfl (by kernel_rfl)) rfl ?_
          refine ⟨_, _, rfl, ?_, hT, by rw [HRR.out, ← HKEY.out]; exact HSI.out⟩
          rw [HRR.out]
          have e := rep_plain (base := w.heap.size) (w' := set7 w11 (w.heap.size + 1) (.int .i64 0) (.slice none 0 0) (.int .i64 (R.ver + 1)) (.int .i64 R.now) (.int .i64 0) (.slice none 0 0) (.bool false)) 0 (R.ver + 1) R.now 0
          rw [HVN.out.1, HVN.out.2] at e
          rw [HVN.out.1, HVN.out.2]
          exact e
      · have d3 := dcf hneg
        have hsm : (mget s.objs u.key).isSome = true := by
          rcases HSM.out with h | h
          · omega
          · exact h.2
        have HRR : Hid (r = ((s.closed x.id pu).made pu.key dj, ⟨0, [], s.ver + 1, s.now, 0, [], false⟩)) := Lib.hid (by rw [HPA.out, HJX.out.2, show pe = 0 by rw [HPE.out, if_neg HN12.out, if_neg (by rw [HJX.out.1]; decide), HJX.out.2, if_neg hlong, if_neg (by unfold PS.crowded; rw [← HKEY.out, hsm]; simp)], if_pos rfl])
        clear hneg hsm hlong
        go_upto_region 20 with fail
        clear d2
        go_wp2_with fail
        refine HAT.out.mono ?_
        rintro e w8 ⟨rfl, rfl⟩
        clear HAT
        have HDC := Lib.hid (drop_calls wi HFi.out.at_ hkr (Nat.le_of_lt (by rw [HLEN.out]; have := HI.out.un; omega)))
        go_upto_region 22 with fail
        clear z0 u2
        go_wp2_with fail
        refine HDC.out.mono ?_
        rintro e w10 ⟨rfl, AU', cU', hT⟩
        have HXD := Lib.hid (HFi.out.go hT)
        have hf2 := HF.out.fr.foot
        have h25 := HB25.out.size
        have HB7d := Lib.hid (hT.keep.blk HB7i.out (fun hf => by have := hf2 _ hf; omega))
        have HOd := Lib.hid (own_apart HO.out hT.keep (fun i hi hf => by have h1 := (HO.out.lt i hi).1; have := hf2 _ hf; omega))
        have hs10 := hT.keep.size
        have HOUT : Hid (Out { R with ups := R.ups.take k ++ R.ups.drop (k + 1), AU := AU', cU := cU' } A8 dj.length) := Lib.hid (fun hn' a ha hf => by
          have h1 := HO.out.lt a.block (by rw [ha]; rfl)
          rcases hT.grew _ hf with h3 | h3
          · have := hf2 _ h3; omega
          · omega)
        have u2 : w10.cell? ⟨g7, 2, none⟩ = some (.string u.key) := HB7d.out.cell 2
        have hv0 : 0 ≤ R.ver := by rw [HSIM.out.ver]; exact HI.out.v0
        have hv1 : R.ver ≤ 1000000 := by rw [HSIM.out.ver]; have := HI.out.v1; omega
        have HPC := Lib.hid (putR_calls (c := c8) w10 HXD.out.at_ (by exact Nat.le_trans hol (by omega)) u.key (own_bytes HOd.out) (Nat.le_refl _) HOUT.out (by omega) hv0 hv1)
        clear HDC hT
        go_wp2_with fail
        refine HPC.out.mono ?_
        rintro e w11 ⟨rfl, A', c', AO', cO', hT2⟩
        have HXZ := Lib.hid (HXD.out.go hT2)
        have HSI : Hid (Sim _ _) := Lib.hid ((HSIM.out.dropU HRS.out hk (by rw [hku]) (s.all - (pu.sum : Int)) AU' cU').put (k := u.key) (psrt_closed HRS.out x.id pu) A' c' dj AO' cO')
        have HVN := Lib.hid (And.intro HSIM.out.ver HSIM.out.now)
        clear HPC hT2 u2 HXD
        have q0 : w11.cell? ⟨w.heap.size + 1, 0, none⟩ = some (.int .i64 0) := HXZ.out.b4.cell 0
        have p0 : w11.frozen? ⟨w.heap.size + 1, 0, none⟩ = false := HXZ.out.b4.frozen 0
        have q1 : w11.cell? ⟨w.heap.size + 1, 1, none⟩ = some (.slice none 0 0) := HXZ.out.b4.cell 1
        have p1 : w11.frozen? ⟨w.heap.size + 1, 1, none⟩ = false := HXZ.out.b4.frozen 1
        have q2 : w11.cell? ⟨w.heap.size + 1, 2, none⟩ = some (.int .i64 0) := HXZ.out.b4.cell 2
        have p2 : w11.frozen? ⟨w.heap.size + 1, 2, none⟩ = false := HXZ.out.b4.frozen 2
        have q3 : w11.cell? ⟨w.heap.size + 1, 3, none⟩ = some (.int .i64 0) := HXZ.out.b4.cell 3
        have p3 : w11.frozen? ⟨w.heap.size + 1, 3, none⟩ = false := HXZ.out.b4.frozen 3
        have q4 : w11.cell? ⟨w.heap.size + 1, 4, none⟩ = some (.int .i64 0) := HXZ.out.b4.cell 4
        have p4 : w11.frozen? ⟨w.heap.size + 1, 4, none⟩ = false := HXZ.out.b4.frozen 4
        have q5 : w11.cell? ⟨w.heap.size + 1, 5, none⟩ = some (.slice none 0 0) := HXZ.out.b4.cell 5
        have p5 : w11.frozen? ⟨w.heap.size + 1, 5, none⟩ = false := HXZ.out.b4.frozen 5
        have q6 : w11.cell? ⟨w.heap.size + 1, 6, none⟩ = some (.bool false) := HXZ.out.b4.cell 6
        have p6 : w11.frozen? ⟨w.heap.size + 1, 6, none⟩ = false := HXZ.out.b4.frozen 6
        go_wp2
        obtain ⟨hw, hT, hK⟩ := HXZ.out.fin (.int .i64 0) (.slice none 0 0) (.int .i64 (R.ver + 1)) (.int .i64 R.now) (.int .i64 0) (.slice none 0 0) (.bool false)
        unfold set7 at hw hT hK
        refine bodyPost_ret (results_cell_row rfl _ _ (w.heap.size + 1) 43 #[(.int .i64 0), (.slice none 0 0), (.int .i64 (R.ver + 1)), (.int .i64 R.now), (.int .i64 0), (.slice none 0 0), (.bool false)] (0, 0) _ rfl hw Tryz.underlying43 rfl (by kernel_rfl)) rfl ?_
        refine ⟨_, _, rfl, ?_, hT, by rw [HRR.out, ← HKEY.out]; exact HSI.out⟩
        rw [HRR.out]
        have e := rep_plain (base := w.heap.size) (w' := set7 w11 (w.heap.size + 1) (.int .i64 0) (.slice none 0 0) (.int .i64 (R.ver + 1)) (.int .i64 R.now) (.int .i64 0) (.slice none 0 0) (.bool false)) 0 (R.ver + 1) R.now 0
        rw [HVN.out.1, HVN.out.2] at e
        rw [HVN.out.1, HVN.out.2]
        exact e
end Rf
end Go.Proofs.YtlljpjehalodfaaGreat
