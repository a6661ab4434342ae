/- The document's store: a part of an upload (chapter 14). -/
import Derived.Test.YtlljpjehalodfaaGreatProg
import Derived.Test.YtlljpjehalodfaaGreatPlG
namespace Go.Proofs.YtlljpjehalodfaaGreat
open Go.RowKit
namespace Rf
open St

def hadR (n : Int) (l : List Rp) : Int := l.foldl (fun a p => if p.n = n then (p.d.length : Int) else a) 0
def othersR (n : Int) (l : List Rp) : List Rp := l.filter fun p => decide (p.n ≠ n)
theorem p_one' (x : Rp) : ∀ u ∈ x.cells, u.oneCell' = true := by
  have := p_one [x]
  unfold pCells at this
  rwa [List.flatMap_singleton] at this
theorem mget_perm {κ β : Type} [DecidableEq κ] {l l' : List (κ × β)} (h : l.Perm l') (hn : Nd l') (x : κ) : mget l x = mget l' x := by
  have hnl : Nd l := (List.Perm.pairwise_iff (R := fun p q : κ × β => p.1 ≠ q.1) (fun e e' => e e'.symm) h).2 hn
  cases hx : mget l' x with
  | none => exact mget_none.2 fun p hp => mget_none.1 hx p (h.mem_iff.1 hp)
  | some v => exact mget_of_mem hnl (h.mem_iff.2 (mget_mem hx))
theorem hadR_aux (n : Int) : ∀ (l : List Rp) (a : Int), Nd (l.map Rp.pure) → l.foldl (fun a p => if p.n = n then (p.d.length : Int) else a) a = match mget (l.map Rp.pure) n with | none => a | some d => (d.length : Int)
  | [], _, _ => rfl
  | p :: r, a, hn => by
    have hn' := List.pairwise_cons.1 hn
    rw [List.foldl_cons, hadR_aux n r _ hn'.2, List.map_cons, mget_cons]
    by_cases e : p.n = n
    · have h1 : mget (r.map Rp.pure) n = none := mget_none.2 fun q hq e' => hn'.1 q hq (show p.n = q.1 by rw [e, e'])
      have e' : (Rp.pure p).1 = n := e
      rw [h1, if_pos e, if_pos e']; rfl
    · have e' : ¬ (Rp.pure p).1 = n := e
      rw [if_neg e, if_neg e']
theorem hadR_eq {n : Int} {l : List Rp} {m : List (Int × Bs)} (hp : (l.map Rp.pure).Perm m) (hn : Nd m) : hadR n l = (((mget m n).getD []).length : Int) := by
  have hnl : Nd (l.map Rp.pure) := (List.Perm.pairwise_iff (R := fun p q : Int × Bs => p.1 ≠ q.1) (fun e e' => e e'.symm) hp).2 hn
  unfold hadR
  rw [hadR_aux n l 0 hnl, mget_perm hp hn]
  cases mget m n <;> rfl
theorem hadR_snoc (n : Int) (l : List Rp) {j : Nat} (hj : j < l.length) : hadR n (l.take (j + 1)) = if (gp l j).n = n then ((gp l j).d.length : Int) else hadR n (l.take j) := by
  unfold hadR
  rw [List.take_succ_eq_append_getElem hj, List.foldl_append, gp_eq hj]; rfl
theorem othersR_snoc (n : Int) (l : List Rp) {j : Nat} (hj : j < l.length) : othersR n (l.take (j + 1)) = if (gp l j).n = n then othersR n (l.take j) else othersR n (l.take j) ++ [gp l j] := by
  unfold othersR
  rw [List.take_succ_eq_append_getElem hj, List.filter_append, gp_eq hj]
  by_cases e : (gp l j).n = n
  · rw [if_pos e, List.filter_cons_of_neg (by simpa using e)]; simp
  · rw [if_neg e, List.filter_cons_of_pos (by simpa using e)]; rfl
theorem pCells_snoc (l : List Rp) (p : Rp) : pCells (l ++ [p]) = pCells l ++ p.cells := by
  unfold pCells; rw [List.flatMap_append, List.flatMap_singleton]
theorem SimU.part {u : Ru} {id n : Int} {pu : PU} {d : Bs} (h : SimU u (id, pu)) (A c) (PA pc) : SimU { u with PA := PA, pc := pc, parts := othersR n u.parts ++ [⟨n, A, c, d⟩] } (id, { pu with parts := mput ltI pu.parts n d }) := by
  refine ⟨h.id, h.key, h.born, ?_⟩
  show ((othersR n u.parts ++ [(⟨n, A, c, d⟩ : Rp)]).map Rp.pure).Perm (mput ltI pu.parts n d)
  unfold mput
  refine List.Perm.trans ?_ (mins_perm _).symm
  rw [List.map_append]
  refine List.perm_append_comm.trans ?_
  refine List.Perm.cons _ ?_
  have e : (othersR n u.parts).map Rp.pure = mdel (u.parts.map Rp.pure) n := by
    unfold othersR mdel
    rw [List.filter_map]; rfl
  rw [e]
  exact h.parts.filter _
theorem Sim.sizeR {w : World} {base n : Nat} {R : RS} {s : PS} (h : RAt w base R) (hS : Sim R s) (hi : PInv s n) (hn : n ≤ 1000) : Calls Tryz.prog 27 #[.pointer (some ⟨R.g, 0, none⟩)] w fun e w' => e = .returned (.int .i64 (R.size : Nat)) ∧ Below w.heap.size w w' := by
  refine size_calls w h (by rw [hS.olen]; have := hi.on; omega) (by rw [hS.ups.len]; have := hi.un; omega) (fun u hu => ?_) (by rw [hS.size]; have := hi.big; omega)
  obtain ⟨i, h1, rfl⟩ := List.getElem_of_mem hu
  have h2 : i < s.ups.length := by rw [← hS.ups.len]; exact h1
  rw [(hS.ups.get h1 h2).len]
  have := hi.pn _ (List.getElem_mem h2)
  omega
theorem Turn.parted {w2 wq wr wz : World} {base : Nat} {R R1 R2 : RS} (hb : Below w2.heap.size w2 wq) (hk1 : Keep R.foot wq wr) (hg1 : Grew wq R R1) (hk2 : Keep R1.foot wr wz) (hg2 : Grew wr R1 R2) (hA : RAt wz base R2) (hg : R2.g = R.g) (ho : R2.objs = R.objs) (hp : ∀ u ∈ R2.ups, u ∈ R.ups ∨ ∀ b, u.addr b → R.addr b ∨ w2.heap.size ≤ b) : Turn w2 base R wz R2 := by
  have h1 := hb.size
  have h2 := hk1.size
  refine ⟨hA, ((Keep.of_below hb).trans hk1).then hk2 fun i hi hf => (hg1 i hf).resolve_right (by omega), fun i hi => ?_, fun b hb' => ?_, hg⟩
  · rcases hg2 i hi with h3 | h3
    · rcases hg1 i h3 with h4 | h4
      · exact .inl h4
      · exact .inr (by omega)
    · exact .inr (by omega)
  · rcases hb' with h3 | ⟨u, hu, h3⟩
    · exact .inl (.inl (by rw [← ho]; exact h3))
    · rcases hp u hu with h4 | h4
      · exact .inl (.inr ⟨u, h4, h3⟩)
      · exact h4 b h3
set_option maxRecDepth 100000 in
set_option maxHeartbeats 16000000 in
theorem partR_calls (w : World) {base n : Nat} {R : RS} {s : PS} {x : Cl} {k : Nat} {pu : PU} (h : RAt w base R) (hS : Sim R s) (hi : PInv s n) (hs : PSrt s) (hn : n ≤ 1000) (hd : Bytes w w.heap.size x.A x.d.length x.d) (ho : Out R x.A x.d.length) (hdl : x.d.length ≤ 140737488355328)
    (hk : k < s.ups.length) (hku : s.ups[k] = (x.id, pu)) :
    Calls Tryz.prog 30 #[.pointer (some ⟨R.g, 0, none⟩), .int .i64 (k : Int), x.val] w (RetR w base R (s.part pu x.pure).1 (s.part pu x.pure).2) := by
  have HSIM := Lib.hid hS
  have HPE : Hid (s.partE pu x.pure = if x.n < 1 ∨ 32 < x.n then 1 else if 262144 < x.d.length then 5 else if 4194304 < s.all + PS.more pu x.pure then 9 else 0) := Lib.hid rfl
  have HPA : Hid (s.part pu x.pure = if s.partE pu x.pure = 0 then ({ s with all := s.all + PS.more pu x.pure, ups := mput ltI s.ups x.id { pu with parts := mput ltI pu.parts x.n x.d } }, bad 0) else (s, bad (s.partE pu x.pure))) := Lib.hid rfl
  generalize s.part pu x.pure = r at *
  generalize s.partE pu x.pure = pe at *
  have HI := Lib.hid hi
  have HRS := Lib.hid hs
  have HF0 := (FR.start h hd ho).toX
  unfold Cl.cells rep0 at HF0
  have HF := Lib.hid HF0
  clear HF0 hd ho h
  unfold Cl.val Cl.cells
  go_enter Tryz.func30, Tryz.ntmps30
  go_upto_region 1 with fail
  generalize ((w.alloc (.cells #[.int .i64 x.kind, .string x.key, .slice x.A x.d.length x.c, .int .i64 x.ver, .int .i64 x.at_, .int .i64 x.n, .int .i64 x.id] 34)).alloc (.cells #[.int .i64 0, .slice none 0 0, .int .i64 0, .int .i64 0, .int .i64 0, .slice none 0 0, .bool false] 43)) = w2 at *
  have k2 : w2.cell? ⟨w.heap.size, 2, none⟩ = some (.slice x.A x.d.length x.c) := HF.out.b3.cell 2
  have k5 : w2.cell? ⟨w.heap.size, 5, none⟩ = some (.int .i64 x.n) := HF.out.b3.cell 5
  by_cases h1 : x.n < 1
  · have d1 := dct h1
    have HRR : Hid (r = (s, bad 1)) := Lib.hid (by rw [HPA.out, show pe = 1 by rw [HPE.out, if_pos (.inl h1)], if_neg (by decide)])
    go_wp2_with fail
    refine (bad_calls w2 1).mono ?_
    rintro e wb ⟨rfl, hbb⟩
    have HXB := Lib.hid (HF.out.on hbb)
    clear hbb
    unfold errV
    have q0 : wb.cell? ⟨w.heap.size + 1, 0, none⟩ = some (.int .i64 0) := HXB.out.b4.cell 0
    have p0 : wb.frozen? ⟨w.heap.size + 1, 0, none⟩ = false := HXB.out.b4.frozen 0
    have q1 : wb.cell? ⟨w.heap.size + 1, 1, none⟩ = some (.slice none 0 0) := HXB.out.b4.cell 1
    have p1 : wb.frozen? ⟨w.heap.size + 1, 1, none⟩ = false := HXB.out.b4.frozen 1
    have q2 : wb.cell? ⟨w.heap.size + 1, 2, none⟩ = some (.int .i64 0) := HXB.out.b4.cell 2
    have p2 : wb.frozen? ⟨w.heap.size + 1, 2, none⟩ = false := HXB.out.b4.frozen 2
    have q3 : wb.cell? ⟨w.heap.size + 1, 3, none⟩ = some (.int .i64 0) := HXB.out.b4.cell 3
    have p3 : wb.frozen? ⟨w.heap.size + 1, 3, none⟩ = false := HXB.out.b4.frozen 3
    have q4 : wb.cell? ⟨w.heap.size + 1, 4, none⟩ = some (.int .i64 0) := HXB.out.b4.cell 4
    have p4 : wb.frozen? ⟨w.heap.size + 1, 4, none⟩ = false := HXB.out.b4.frozen 4
    have q5 : wb.cell? ⟨w.heap.size + 1, 5, none⟩ = some (.slice none 0 0) := HXB.out.b4.cell 5
    have p5 : wb.frozen? ⟨w.heap.size + 1, 5, none⟩ = false := HXB.out.b4.frozen 5
    have q6 : wb.cell? ⟨w.heap.size + 1, 6, none⟩ = some (.bool false) := HXB.out.b4.cell 6
    have p6 : wb.frozen? ⟨w.heap.size + 1, 6, none⟩ = false := HXB.out.b4.frozen 6
    go_wp2
    obtain ⟨hw, hT, hK⟩ := HXB.out.fin (.int .i64 1) (.slice none 0 0) (.int .i64 0) (.int .i64 0) (.int .i64 0) (.slice none 0 0) (.bool false)
    unfold set7 at hw hT hK
    refine bodyPost_ret (results_cell_row rfl _ _ (w.heap.size + 1) 43 #[(.int .i64 1), (.slice none 0 0), (.int .i64 0), (.int .i64 0), (.int .i64 0), (.slice none 0 0), (.bool false)] (0, 0) _ rfl hw Tryz.underlying43 rfl (by kernel_rfl)) rfl ?_
    exact ⟨_, _, rfl, by rw [HRR.out]; exact rep_plain 1 0 0 0, hT, by rw [HRR.out]; exact HSIM.out⟩
  have d1 := dcf h1
  by_cases h2 : 32 < x.n
  · have d2 := dct h2
    have HRR : Hid (r = (s, bad 1)) := Lib.hid (by rw [HPA.out, show pe = 1 by rw [HPE.out, if_pos (.inr h2)], if_neg (by decide)])
    go_wp2_with fail
    refine (bad_calls w2 1).mono ?_
    rintro e wb ⟨rfl, hbb⟩
    have HXB := Lib.hid (HF.out.on hbb)
    clear hbb
    unfold errV
    have q0 : wb.cell? ⟨w.heap.size + 1, 0, none⟩ = some (.int .i64 0) := HXB.out.b4.cell 0
    have p0 : wb.frozen? ⟨w.heap.size + 1, 0, none⟩ = false := HXB.out.b4.frozen 0
    have q1 : wb.cell? ⟨w.heap.size + 1, 1, none⟩ = some (.slice none 0 0) := HXB.out.b4.cell 1
    have p1 : wb.frozen? ⟨w.heap.size + 1, 1, none⟩ = false := HXB.out.b4.frozen 1
    have q2 : wb.cell? ⟨w.heap.size + 1, 2, none⟩ = some (.int .i64 0) := HXB.out.b4.cell 2
    have p2 : wb.frozen? ⟨w.heap.size + 1, 2, none⟩ = false := HXB.out.b4.frozen 2
    have q3 : wb.cell? ⟨w.heap.size + 1, 3, none⟩ = some (.int .i64 0) := HXB.out.b4.cell 3
    have p3 : wb.frozen? ⟨w.heap.size + 1, 3, none⟩ = false := HXB.out.b4.frozen 3
    have q4 : wb.cell? ⟨w.heap.size + 1, 4, none⟩ = some (.int .i64 0) := HXB.out.b4.cell 4
    have p4 : wb.frozen? ⟨w.heap.size + 1, 4, none⟩ = false := HXB.out.b4.frozen 4
    have q5 : wb.cell? ⟨w.heap.size + 1, 5, none⟩ = some (.slice none 0 0) := HXB.out.b4.cell 5
    have p5 : wb.frozen? ⟨w.heap.size + 1, 5, none⟩ = false := HXB.out.b4.frozen 5
    have q6 : wb.cell? ⟨w.heap.size + 1, 6, none⟩ = some (.bool false) := HXB.out.b4.cell 6
    have p6 : wb.frozen? ⟨w.heap.size + 1, 6, none⟩ = false := HXB.out.b4.frozen 6
    go_wp2
    obtain ⟨hw, hT, hK⟩ := HXB.out.fin (.int .i64 1) (.slice none 0 0) (.int .i64 0) (.int .i64 0) (.int .i64 0) (.slice none 0 0) (.bool false)
    unfold set7 at hw hT hK
    refine bodyPost_ret (results_cell_row rfl _ _ (w.heap.size + 1) 43 #[(.int .i64 1), (.slice none 0 0), (.int .i64 0), (.int .i64 0), (.int .i64 0), (.slice none 0 0), (.bool false)] (0, 0) _ rfl hw Tryz.underlying43 rfl (by kernel_rfl)) rfl ?_
    exact ⟨_, _, rfl, by rw [HRR.out]; exact rep_plain 1 0 0 0, hT, by rw [HRR.out]; exact HSIM.out⟩
  have d2 := dcf h2
  have HN12 : Hid (¬ (x.n < 1 ∨ 32 < x.n)) := Lib.hid (by omega)
  by_cases h3 : 262144 < x.d.length
  · have d3 : decide ((262144 : Int) < (x.d.length : Int)) = true := dct (by omega)
    have HRR : Hid (r = (s, bad 5)) := Lib.hid (by rw [HPA.out, show pe = 5 by rw [HPE.out, if_neg HN12.out, if_pos h3], if_neg (by decide)])
    go_wp2_with fail
    refine (bad_calls w2 5).mono ?_
    rintro e wb ⟨rfl, hbb⟩
    have HXB := Lib.hid (HF.out.on hbb)
    clear hbb
    unfold errV
    have q0 : wb.cell? ⟨w.heap.size + 1, 0, none⟩ = some (.int .i64 0) := HXB.out.b4.cell 0
    have p0 : wb.frozen? ⟨w.heap.size + 1, 0, none⟩ = false := HXB.out.b4.frozen 0
    have q1 : wb.cell? ⟨w.heap.size + 1, 1, none⟩ = some (.slice none 0 0) := HXB.out.b4.cell 1
    have p1 : wb.frozen? ⟨w.heap.size + 1, 1, none⟩ = false := HXB.out.b4.frozen 1
    have q2 : wb.cell? ⟨w.heap.size + 1, 2, none⟩ = some (.int .i64 0) := HXB.out.b4.cell 2
    have p2 : wb.frozen? ⟨w.heap.size + 1, 2, none⟩ = false := HXB.out.b4.frozen 2
    have q3 : wb.cell? ⟨w.heap.size + 1, 3, none⟩ = some (.int .i64 0) := HXB.out.b4.cell 3
    have p3 : wb.frozen? ⟨w.heap.size + 1, 3, none⟩ = false := HXB.out.b4.frozen 3
    have q4 : wb.cell? ⟨w.heap.size + 1, 4, none⟩ = some (.int .i64 0) := HXB.out.b4.cell 4
    have p4 : wb.frozen? ⟨w.heap.size + 1, 4, none⟩ = false := HXB.out.b4.frozen 4
    have q5 : wb.cell? ⟨w.heap.size + 1, 5, none⟩ = some (.slice none 0 0) := HXB.out.b4.cell 5
    have p5 : wb.frozen? ⟨w.heap.size + 1, 5, none⟩ = false := HXB.out.b4.frozen 5
    have q6 : wb.cell? ⟨w.heap.size + 1, 6, none⟩ = some (.bool false) := HXB.out.b4.cell 6
    have p6 : wb.frozen? ⟨w.heap.size + 1, 6, none⟩ = false := HXB.out.b4.frozen 6
    go_wp2
    obtain ⟨hw, hT, hK⟩ := HXB.out.fin (.int .i64 5) (.slice none 0 0) (.int .i64 0) (.int .i64 0) (.int .i64 0) (.slice none 0 0) (.bool false)
    unfold set7 at hw hT hK
    refine bodyPost_ret (results_cell_row rfl _ _ (w.heap.size + 1) 43 #[(.int .i64 5), (.slice none 0 0), (.int .i64 0), (.int .i64 0), (.int .i64 0), (.slice none 0 0), (.bool false)] (0, 0) _ rfl hw Tryz.underlying43 rfl (by kernel_rfl)) rfl ?_
    exact ⟨_, _, rfl, by rw [HRR.out]; exact rep_plain 5 0 0 0, hT, by rw [HRR.out]; exact HSIM.out⟩
  have d3 : decide ((262144 : Int) < (x.d.length : Int)) = false := dcf (by omega)
  go_upto_region 5 with fail
  clear d1 d2 d3
  have hsz := HF.out.size
  obtain ⟨u, hu⟩ : ∃ u, gu R.ups k = u := ⟨_, rfl⟩
  have hlen := hS.ups.len
  have hkr : k < R.ups.length := by omega
  have HSU : Hid (SimU u (x.id, pu)) := Lib.hid (by rw [← hu, ← gu_eq hkr, ← hku]; exact hS.ups.get hkr hk)
  have HRU : Hid (RU w2 R u) := Lib.hid (HF.out.at_.ru_ (hu ▸ gu_mem hkr))
  have z1 : w2.cell? ⟨R.g, 1, none⟩ = some (.slice R.AU R.ups.length R.cU) := HF.out.at_.blk.cell 1
  obtain ⟨b, off, e0, hbB, hcell⟩ := u_at HF.out.at_.u_reads hkr
  rw [hu] at hcell
  have x0 := hcell 0 _ (by omega) rfl
  have x1 := hcell 1 _ (by omega) rfl
  have x2 := hcell 2 _ (by omega) rfl
  have x3 := hcell 3 _ (by omega) rfl
  rw [Nat.add_zero] at x0
  rw [e0] at z1
  have hi0 : (0 : Int) ≤ (k : Int) := by omega
  have hi1 : (k : Int) < (R.ups.length : Int) := by omega
  have HLEN := Lib.hid hlen
  clear hcell hS hi hs hlen
  go_upto_region 6 with fail
  have HB7 := Lib.hid (Blk.new w2 74 #[.int .i64 u.id, .int .i64 u.born, .string u.key, .slice u.PA u.parts.length u.pc])
  have hb5 : Below w2.heap.size w2 (w2.alloc (.cells #[.int .i64 u.id, .int .i64 u.born, .string u.key, .slice u.PA u.parts.length u.pc] 74)) := (Below.refl _ _).alloc (Nat.le_refl _) _
  have HB25 := Lib.hid hb5
  have HF5 := Lib.hid (HF.out.on hb5)
  have HPR := Lib.hid ((HRU.out.up.1.below hb5).more hb5.size)
  clear x0 x1 x2 x3 z1 k2 k5 hb5 e0
  generalize w2.alloc (.cells #[.int .i64 u.id, .int .i64 u.born, .string u.key, .slice u.PA u.parts.length u.pc] 74) = w5 at *
  obtain ⟨g7, hg7⟩ : ∃ g7, w2.heap.size = g7 := ⟨_, rfl⟩
  rw [hg7] at HB7 ⊢
  have u3 : w5.cell? ⟨g7, 3, none⟩ = some (.slice u.PA u.parts.length u.pc) := HB7.out.cell 3
  have HO0 : Hid ((w5.alloc (.cells #[] 90)).ownsRow w5.heap.size 90 2 (.slice (some ⟨w5.heap.size, 0, none⟩) 0 0) 0 []) := Lib.hid (World.ownsRow_made w5 #[] 0 (Nat.le_refl _) (Nat.zero_le _) rfl)
  have HW6 : Hid (Below w5.heap.size w5 (w5.alloc (.cells #[] 90))) := Lib.hid ((Below.refl _ _).alloc (Nat.le_refl _) _)
  have hpl : u.parts.length ≤ 100000 := by
    rw [HSU.out.len]
    have := HI.out.pn (x.id, pu) (hku ▸ List.getElem_mem hk)
    have := Nat.le_trans this hn
    omega
  have hg75 := HB7.out.lt
  go_wp2
  go_loopw [8, 9, 37] (fun s8 s9 s37 wr => ∃ (j : Nat) (l : List Rp) (A8 : Option Addr) (c8 : Nat), j ≤ u.parts.length ∧ s8 = .slice A8 l.length c8 ∧ s9 = .int .i64 (hadR x.n (u.parts.take j)) ∧ s37 = .int .i64 (j : Int) ∧ Hid (l = othersR x.n (u.parts.take j)) ∧ Hid (wr.ownsRow w5.heap.size 90 2 (.slice A8 l.length c8) l.length (pCells l)) ∧ Hid (Below w5.heap.size w5 wr)) (fun _ _ i _ => u.parts.length - (intOf i).toNat)
  case atStart => exact ⟨0, [], _, _, Nat.zero_le _, rfl, rfl, rfl, Lib.hid rfl, HO0, HW6⟩
  case round =>
    obtain ⟨j, l, A8, c8, hj, rfl, rfl, rfl, HL, HO, HW⟩ := hrel
    obtain ⟨wi, rfl⟩ : ∃ wi : World, wi = wr := ⟨_, rfl⟩
    have hle := HW.out.size
    have hsz5 := HF5.out.size
    by_cases hlt : j < u.parts.length
    · have d1 : decide ((j : Int) < (u.parts.length : Int)) = true := dct (by omega)
      obtain ⟨b', off', e', hbB', hcell⟩ := p_at (HPR.out.below HW.out) hlt
      have x0 := hcell 0 _ (by omega) rfl
      have x1 := hcell 1 _ (by omega) rfl
      rw [Nat.add_zero] at x0
      have hi0' : (0 : Int) ≤ (j : Int) := by omega
      have hi1' : (j : Int) < (u.parts.length : Int) := by omega
      have HH := Lib.hid (hadR_snoc x.n u.parts hlt)
      have HOS := Lib.hid (othersR_snoc x.n u.parts hlt)
      have hll : l.length ≤ 100000 := by rw [HL.out]; refine Nat.le_trans (List.length_filter_le _ _) ?_; rw [List.length_take]; omega
      rw [e']
      clear hcell
      generalize gp u.parts j = y at *
      go_upto_region 11 with fail
      have HB9 := Lib.hid (Blk.new wi 90 #[.int .i64 y.n, .slice y.A y.d.length y.c])
      have hb9 : Below wi.heap.size wi (wi.alloc (.cells #[.int .i64 y.n, .slice y.A y.d.length y.c] 90)) := (Below.refl _ _).alloc (Nat.le_refl _) _
      have HW9 := Lib.hid (HW.out.trans (hb9.mono hle))
      have HO9 := Lib.hid (own_below HO.out hb9)
      clear x0 x1 hb9 HO HW
      generalize wi.alloc (.cells #[.int .i64 y.n, .slice y.A y.d.length y.c] 90) = w9 at *
      obtain ⟨g9, hg9⟩ : ∃ g9, wi.heap.size = g9 := ⟨_, rfl⟩
      rw [hg9] at HB9 ⊢
      have y0 : w9.cell? ⟨g9, 0, none⟩ = some (.int .i64 y.n) := HB9.out.cell 0
      have y1 : w9.cell? ⟨g9, 1, none⟩ = some (.slice y.A y.d.length y.c) := HB9.out.cell 1
      have k5 : w9.cell? ⟨w.heap.size, 5, none⟩ = some (.int .i64 x.n) := (HF5.out.on HW9.out).b3.cell 5
      by_cases hq : y.n = x.n
      · have d2 := eqt hq
        go_wp2
        go_roundw
        case rel => exact ⟨j + 1, l, A8, c8, by omega, rfl, by rw [HH.out, if_pos hq], by go_num, Lib.hid (by rw [HOS.out, if_pos hq, HL.out]), HO9, HW9⟩
        case measure => simp [intOf]; omega
      · have d2 := eqf hq
        have hle9 := HW9.out.size
        go_wp2_with (at_builtin; go_must (refine wpList_append_sl _ rfl (.tmp 49) (.tmp 51) _ rfl w5.heap.size 90 _ 2 32 Tryz.underlying72 Tryz.infoP rfl (by omega) _ _ _ rfl (HO9.out.alloc _) (w9.heap.size + 1) _ 1 1 (Rp.cells y) rfl (Reads.made (n := 1) (size := 2) w9 _ _ rfl) (p_one' _) (by unfold maxLen; omega) (by omega) (by simp; omega) ?_))
        intro A10 c10 w10 hc101 hc102 hrd10 hbel10 hown10 _ _
        have HO10 : Hid (w10.ownsRow w5.heap.size 90 2 (.slice A10 (l ++ [y]).length c10) (l ++ [y]).length (pCells (l ++ [y]))) := Lib.hid (by rw [pCells_snoc, List.length_append]; exact hown10)
        have HW10 := Lib.hid ((HW9.out.alloc hle9 (.cells #[.int .i64 y.n, .slice y.A y.d.length y.c] 90)).trans hbel10)
        clear hc101 hc102 hrd10 hbel10 hown10
        go_wp2
        go_roundw
        case rel => exact ⟨j + 1, l ++ [y], A10, c10, by omega, by rw [List.length_append]; rfl, by rw [HH.out, if_neg hq], by go_num, Lib.hid (by rw [HOS.out, if_neg hq, HL.out]), HO10, HW10⟩
        case measure => simp [intOf]; omega
    · obtain rfl : j = u.parts.length := by omega
      have d1 : decide ((u.parts.length : Int) < (u.parts.length : Int)) = false := dcf (by omega)
      rw [List.take_length] at HL ⊢
      have hndp : Nd pu.parts := HRS.out.ndp (p := (x.id, pu)) (hku ▸ List.getElem_mem hk)
      obtain ⟨had, hhad⟩ : ∃ m, ((mget pu.parts x.n).getD []).length = m := ⟨_, rfl⟩
      have HHAD : Hid (hadR x.n u.parts = (had : Int)) := Lib.hid (by rw [hadR_eq HSU.out.parts hndp, hhad])
      have HMORE : Hid (PS.more pu x.pure = (x.d.length : Int) - (had : Int)) := Lib.hid (by rw [← hhad]; rfl)
      have HALL : Hid (s.all = (R.size : Int)) := Lib.hid (by rw [HSIM.out.size, HI.out.all])
      have hbig : R.size ≤ 262144000 := by rw [HSIM.out.size]; have := HI.out.big; omega
      have hhl : had ≤ 262144 := by
        rw [← hhad]
        cases hm : mget pu.parts x.n with
        | none => simp
        | some d => exact HI.out.pd (x.id, pu) (hku ▸ List.getElem_mem hk) _ (mget_mem hm)
      rw [HHAD.out]
      clear hndp hhad HHAD hlt d1
      have HB2i := Lib.hid (HB25.out.trans (HW.out.mono (HB25.out.size)))
      have HFi := Lib.hid (HF.out.on HB2i.out)
      have hsz2 := HF.out.size
      have hlei := HB2i.out.size
      clear HF5 HW6 HO0 hg75 u3 hsz5
      have r1 : IntKind.i64.wrap ((R.size : Int) - (had : Int)) = (R.size : Int) - (had : Int) := by rw [IntKind.wrap_i64]; omega
      have r2 : IntKind.i64.wrap ((R.size : Int) - (had : Int) + (x.d.length : Int)) = (R.size : Int) - (had : Int) + (x.d.length : Int) := by rw [IntKind.wrap_i64]; omega
      by_cases h4 : 4194304 < (R.size : Int) - (had : Int) + (x.d.length : Int)
      · have d4 := dct h4
        have HRR : Hid (r = (s, bad 9)) := Lib.hid (by rw [HPA.out, show pe = 9 by rw [HPE.out, if_neg HN12.out, if_neg h3, if_pos (by rw [HALL.out, HMORE.out]; omega)], if_neg (by decide)])
        clear h4
        go_upto_region 15 with fail
        have Hk : Hid (∀ W, Below wi.heap.size wi W → W.cell? ⟨w.heap.size, 2, none⟩ = some (.slice x.A x.d.length x.c)) := Lib.hid fun W hW => (HFi.out.on hW).b3.cell 2
        have HSZ : Hid (∀ W, Below wi.heap.size wi W → Calls Tryz.prog 27 #[.pointer (some ⟨R.g, 0, none⟩)] W fun e w' => e = .returned (.int .i64 (R.size : Nat)) ∧ Below W.heap.size W w') := Lib.hid fun W hW => HSIM.out.sizeR (HFi.out.on hW).at_ HI.out hn
        refine wp_region_T 99 (fun w' => w'.cell? ⟨w.heap.size, 2, none⟩ = some (.slice x.A x.d.length x.c)) (by kernel_rfl) (Hk.out _ (below_drewN_ (Below.refl _ _) 1)) (fun hHeld => ?_)
        refine wpAnyT_take (i := 0) (oi := _) (v := ?_) rfl (by kernel_rfl) (fun _ _ _ h => h) (Or.inl ⟨by kernel_rfl, ?_⟩) (by assumption) ?_; rotate_left; (focus (intro w hSw; (try dsimp only at hSw); go_simp; (try with_reducible rfl))); (try simp only [Act.put, List.getElem_toArray, List.getElem_cons_zero, List.setIfInBounds_toArray, List.set_cons_zero, List.set_cons_succ])
        refine wpAnyT_take (i := 2) (oi := _) (v := ?_) rfl (by kernel_rfl) (fun _ _ _ h => h) (Or.inl ⟨by kernel_rfl, ?_⟩) (by assumption) ?_; rotate_left; (focus (intro w hSw; (try dsimp only at hSw); go_simp; (try with_reducible rfl))); (try simp only [Act.put, List.getElem_toArray, List.getElem_cons_zero, List.getElem_cons_succ, List.setIfInBounds_toArray, List.set_cons_zero, List.set_cons_succ])
        refine wpAnyT_take (i := 4) (oi := _) (v := ?_) rfl (by kernel_rfl) (fun _ _ _ h => h) (Or.inl ⟨by kernel_rfl, ?_⟩) (by assumption) ?_; rotate_left; (focus (intro w hSw; (try dsimp only at hSw); go_simp; (try with_reducible rfl))); (try simp only [Act.put, List.getElem_toArray, List.getElem_cons_zero, List.getElem_cons_succ, List.setIfInBounds_toArray, List.set_cons_zero, List.set_cons_succ])
        refine wpAnyT_take (i := 5) (oi := _) (v := ?_) rfl (by kernel_rfl) (fun _ _ _ h => h) (Or.inl ⟨by kernel_rfl, ?_⟩) (by assumption) ?_; rotate_left; (focus (intro w hSw; (try dsimp only at hSw); go_simp; (try with_reducible rfl))); (try simp only [Act.put, List.getElem_toArray, List.getElem_cons_zero, List.getElem_cons_succ, List.setIfInBounds_toArray, List.set_cons_zero, List.set_cons_succ])
        refine wpAnyT_take (i := 6) (oi := _) (v := ?_) rfl (by kernel_rfl) (fun _ _ _ h => h) (Or.inl ⟨by kernel_rfl, ?_⟩) (by assumption) ?_; rotate_left; (focus (intro w hSw; (try dsimp only at hSw); go_simp; (try with_reducible rfl))); (try simp only [Act.put, List.getElem_toArray, List.getElem_cons_zero, List.getElem_cons_succ, List.setIfInBounds_toArray, List.set_cons_zero, List.set_cons_succ])
        refine wpAnyT_one (i := 1) (by kernel_rfl) rfl (fun K hK => ?_); go_simp
        refine (HSZ.out _ (below_drewN_ (Below.refl _ _) 1)).mono ?_
        rintro e w8 ⟨rfl, hb8'⟩
        have hb8 : Below wi.heap.size wi w8 := (below_drewN_ (Below.refl _ _) 1).trans hb8'
        have hH8 := Hk.out _ hb8
        refine hK.out _ _ (fun _ => hH8) ?_
        have HF8 := Lib.hid (HFi.out.on hb8)
        have HO8 := Lib.hid (own_below HO.out hb8)
        have HB28 := Lib.hid (HB2i.out.trans (hb8.mono hlei))
        have HB5i := Lib.hid (HW.out.trans (hb8.mono hle))
        clear hK K hHeld hb8 hb8' HSZ Hk HFi HO HB2i
        (try simp only [Act.put, List.getElem_toArray, List.getElem_cons_zero, List.getElem_cons_succ, List.setIfInBounds_toArray, List.set_cons_zero, List.set_cons_succ])
        refine wpAnyT_take (i := 3) (oi := _) (v := ?_) rfl (by kernel_rfl) (fun _ _ _ h => h) (Or.inl ⟨by kernel_rfl, ?_⟩) (by assumption) ?_; rotate_left; (focus (intro w hSw; (try dsimp only at hSw); go_simp; (try with_reducible rfl))); (try simp only [Act.put, List.getElem_toArray, List.getElem_cons_zero, List.getElem_cons_succ, List.setIfInBounds_toArray, List.set_cons_zero, List.set_cons_succ])
        refine wpAnyT_take (i := 7) (oi := _) (v := ?_) rfl (by kernel_rfl) (fun _ _ _ h => h) (Or.inl ⟨by kernel_rfl, ?_⟩) (by assumption) ?_; rotate_left; (focus (intro w hSw; (try dsimp only at hSw); go_simp; (try with_reducible rfl))); (try simp only [Act.put, List.getElem_toArray, List.getElem_cons_zero, List.getElem_cons_succ, List.setIfInBounds_toArray, List.set_cons_zero, List.set_cons_succ])
        refine wpAnyT_take (i := 8) (oi := _) (v := ?_) rfl (by kernel_rfl) (fun _ _ _ h => h) (Or.inl ⟨by kernel_rfl, ?_⟩) (by assumption) ?_; rotate_left; (focus (intro w hSw; (try dsimp only at hSw); go_simp; (try with_reducible rfl))); (try simp only [Act.put, List.getElem_toArray, List.getElem_cons_zero, List.getElem_cons_succ, List.setIfInBounds_toArray, List.set_cons_zero, List.set_cons_succ])
        refine wpAnyT_done (by kernel_rfl) ?_ _
        go_wp2_with fail
        refine (bad_calls w8 9).mono ?_
        rintro e wb ⟨rfl, hbb⟩
        have HXB := Lib.hid (HF8.out.on hbb)
        clear hbb
        unfold errV
        have q0 : wb.cell? ⟨w.heap.size + 1, 0, none⟩ = some (.int .i64 0) := HXB.out.b4.cell 0
        have p0 : wb.frozen? ⟨w.heap.size + 1, 0, none⟩ = false := HXB.out.b4.frozen 0
        have q1 : wb.cell? ⟨w.heap.size + 1, 1, none⟩ = some (.slice none 0 0) := HXB.out.b4.cell 1
        have p1 : wb.frozen? ⟨w.heap.size + 1, 1, none⟩ = false := HXB.out.b4.frozen 1
        have q2 : wb.cell? ⟨w.heap.size + 1, 2, none⟩ = some (.int .i64 0) := HXB.out.b4.cell 2
        have p2 : wb.frozen? ⟨w.heap.size + 1, 2, none⟩ = false := HXB.out.b4.frozen 2
        have q3 : wb.cell? ⟨w.heap.size + 1, 3, none⟩ = some (.int .i64 0) := HXB.out.b4.cell 3
        have p3 : wb.frozen? ⟨w.heap.size + 1, 3, none⟩ = false := HXB.out.b4.frozen 3
        have q4 : wb.cell? ⟨w.heap.size + 1, 4, none⟩ = some (.int .i64 0) := HXB.out.b4.cell 4
        have p4 : wb.frozen? ⟨w.heap.size + 1, 4, none⟩ = false := HXB.out.b4.frozen 4
        have q5 : wb.cell? ⟨w.heap.size + 1, 5, none⟩ = some (.slice none 0 0) := HXB.out.b4.cell 5
        have p5 : wb.frozen? ⟨w.heap.size + 1, 5, none⟩ = false := HXB.out.b4.frozen 5
        have q6 : wb.cell? ⟨w.heap.size + 1, 6, none⟩ = some (.bool false) := HXB.out.b4.cell 6
        have p6 : wb.frozen? ⟨w.heap.size + 1, 6, none⟩ = false := HXB.out.b4.frozen 6
        go_wp2
        obtain ⟨hw, hT, hK⟩ := HXB.out.fin (.int .i64 9) (.slice none 0 0) (.int .i64 0) (.int .i64 0) (.int .i64 0) (.slice none 0 0) (.bool false)
        unfold set7 at hw hT hK
        refine bodyPost_ret (results_cell_row rfl _ _ (w.heap.size + 1) 43 #[(.int .i64 9), (.slice none 0 0), (.int .i64 0), (.int .i64 0), (.int .i64 0), (.slice none 0 0), (.bool false)] (0, 0) _ rfl hw Tryz.underlying43 rfl (by kernel_rfl)) rfl ?_
        exact ⟨_, _, rfl, by rw [HRR.out]; exact rep_plain 9 0 0 0, hT, by rw [HRR.out]; exact HSIM.out⟩
      have d4 := dcf h4
      have HRR : Hid (r = ({ s with all := s.all + PS.more pu x.pure, ups := mput ltI s.ups x.id { pu with parts := mput ltI pu.parts x.n x.d } }, bad 0)) := Lib.hid (by rw [HPA.out, show pe = 0 by rw [HPE.out, if_neg HN12.out, if_neg h3, if_neg (by rw [HALL.out, HMORE.out]; omega)], if_pos rfl])
      clear HPA HPE h4 HALL HMORE
      go_upto_region 15 with fail
      have Hk : Hid (∀ W, Below wi.heap.size wi W → W.cell? ⟨w.heap.size, 2, none⟩ = some (.slice x.A x.d.length x.c)) := Lib.hid fun W hW => (HFi.out.on hW).b3.cell 2
      have HSZ : Hid (∀ W, Below wi.heap.size wi W → Calls Tryz.prog 27 #[.pointer (some ⟨R.g, 0, none⟩)] W fun e w' => e = .returned (.int .i64 (R.size : Nat)) ∧ Below W.heap.size W w') := Lib.hid fun W hW => HSIM.out.sizeR (HFi.out.on hW).at_ HI.out hn
      refine wp_region_T 99 (fun w' => w'.cell? ⟨w.heap.size, 2, none⟩ = some (.slice x.A x.d.length x.c)) (by kernel_rfl) (Hk.out _ (below_drewN_ (Below.refl _ _) 1)) (fun hHeld => ?_)
      refine wpAnyT_take (i := 0) (oi := _) (v := ?_) rfl (by kernel_rfl) (fun _ _ _ h => h) (Or.inl ⟨by kernel_rfl, ?_⟩) (by assumption) ?_; rotate_left; (focus (intro w hSw; (try dsimp only at hSw); go_simp; (try with_reducible rfl))); (try simp only [Act.put, List.getElem_toArray, List.getElem_cons_zero, List.setIfInBounds_toArray, List.set_cons_zero, List.set_cons_succ])
      refine wpAnyT_take (i := 2) (oi := _) (v := ?_) rfl (by kernel_rfl) (fun _ _ _ h => h) (Or.inl ⟨by kernel_rfl, ?_⟩) (by assumption) ?_; rotate_left; (focus (intro w hSw; (try dsimp only at hSw); go_simp; (try with_reducible rfl))); (try simp only [Act.put, List.getElem_toArray, List.getElem_cons_zero, List.getElem_cons_succ, List.setIfInBounds_toArray, List.set_cons_zero, List.set_cons_succ])
      refine wpAnyT_take (i := 4) (oi := _) (v := ?_) rfl (by kernel_rfl) (fun _ _ _ h => h) (Or.inl ⟨by kernel_rfl, ?_⟩) (by assumption) ?_; rotate_left; (focus (intro w hSw; (try dsimp only at hSw); go_simp; (try with_reducible rfl))); (try simp only [Act.put, List.getElem_toArray, List.getElem_cons_zero, List.getElem_cons_succ, List.setIfInBounds_toArray, List.set_cons_zero, List.set_cons_succ])
      refine wpAnyT_take (i := 5) (oi := _) (v := ?_) rfl (by kernel_rfl) (fun _ _ _ h => h) (Or.inl ⟨by kernel_rfl, ?_⟩) (by assumption) ?_; rotate_left; (focus (intro w hSw; (try dsimp only at hSw); go_simp; (try with_reducible rfl))); (try simp only [Act.put, List.getElem_toArray, List.getElem_cons_zero, List.getElem_cons_succ, List.setIfInBounds_toArray, List.set_cons_zero, List.set_cons_succ])
      refine wpAnyT_take (i := 6) (oi := _) (v := ?_) rfl (by kernel_rfl) (fun _ _ _ h => h) (Or.inl ⟨by kernel_rfl, ?_⟩) (by assumption) ?_; rotate_left; (focus (intro w hSw; (try dsimp only at hSw); go_simp; (try with_reducible rfl))); (try simp only [Act.put, List.getElem_toArray, List.getElem_cons_zero, List.getElem_cons_succ, List.setIfInBounds_toArray, List.set_cons_zero, List.set_cons_succ])
      refine wpAnyT_one (i := 1) (by kernel_rfl) rfl (fun K hK => ?_); go_simp
      refine (HSZ.out _ (below_drewN_ (Below.refl _ _) 1)).mono ?_
      rintro e w8 ⟨rfl, hb8'⟩
      have hb8 : Below wi.heap.size wi w8 := (below_drewN_ (Below.refl _ _) 1).trans hb8'
      have hH8 := Hk.out _ hb8
      refine hK.out _ _ (fun _ => hH8) ?_
      have HF8 := Lib.hid (HFi.out.on hb8)
      have HO8 := Lib.hid (own_below HO.out hb8)
      have HB28 := Lib.hid (HB2i.out.trans (hb8.mono hlei))
      have HB5i := Lib.hid (HW.out.trans (hb8.mono hle))
      clear hK K hHeld hb8 hb8' HSZ Hk HFi HO HB2i
      (try simp only [Act.put, List.getElem_toArray, List.getElem_cons_zero, List.getElem_cons_succ, List.setIfInBounds_toArray, List.set_cons_zero, List.set_cons_succ])
      refine wpAnyT_take (i := 3) (oi := _) (v := ?_) rfl (by kernel_rfl) (fun _ _ _ h => h) (Or.inl ⟨by kernel_rfl, ?_⟩) (by assumption) ?_; rotate_left; (focus (intro w hSw; (try dsimp only at hSw); go_simp; (try with_reducible rfl))); (try simp only [Act.put, List.getElem_toArray, List.getElem_cons_zero, List.getElem_cons_succ, List.setIfInBounds_toArray, List.set_cons_zero, List.set_cons_succ])
      refine wpAnyT_take (i := 7) (oi := _) (v := ?_) rfl (by kernel_rfl) (fun _ _ _ h => h) (Or.inl ⟨by kernel_rfl, ?_⟩) (by assumption) ?_; rotate_left; (focus (intro w hSw; (try dsimp only at hSw); go_simp; (try with_reducible rfl))); (try simp only [Act.put, List.getElem_toArray, List.getElem_cons_zero, List.getElem_cons_succ, List.setIfInBounds_toArray, List.set_cons_zero, List.set_cons_succ])
      refine wpAnyT_take (i := 8) (oi := _) (v := ?_) rfl (by kernel_rfl) (fun _ _ _ h => h) (Or.inl ⟨by kernel_rfl, ?_⟩) (by assumption) ?_; rotate_left; (focus (intro w hSw; (try dsimp only at hSw); go_simp; (try with_reducible rfl))); (try simp only [Act.put, List.getElem_toArray, List.getElem_cons_zero, List.getElem_cons_succ, List.setIfInBounds_toArray, List.set_cons_zero, List.set_cons_succ])
      refine wpAnyT_done (by kernel_rfl) ?_ _
      go_upto_region 17 with fail
      clear d4 r1 r2
      have HDI : Hid (Bytes w8 w8.heap.size x.A x.d.length x.d) := Lib.hid HF8.out.dat
      have Hk : Hid (∀ W, Below w8.heap.size w8 W → W.cell? ⟨w.heap.size, 2, none⟩ = some (.slice x.A x.d.length x.c) ∧ W.cell? ⟨w.heap.size, 5, none⟩ = some (.int .i64 x.n)) := Lib.hid fun W hW => ⟨(HF8.out.on hW).b3.cell 2, (HF8.out.on hW).b3.cell 5⟩
      have hll : l.length ≤ 100000 := by rw [HL.out]; exact Nat.le_trans (List.length_filter_le _ _) hpl
      refine wp_region_T 10 (fun w' => w'.cell? ⟨w.heap.size, 2, none⟩ = some (.slice x.A x.d.length x.c) ∧ w'.cell? ⟨w.heap.size, 5, none⟩ = some (.int .i64 x.n)) (by kernel_rfl) (Hk.out _ (below_drewN_ (Below.refl _ _) 1)) (fun hHeld => ?_)
      have HW0 : Hid (Below w8.heap.size w8 w8.drew) := Lib.hid (below_drewN_ (Below.refl _ _) 1)
      generalize w8.drew = wd at *
      refine wpAnyT_take (i := 0) (oi := _) (v := ?_) rfl (by kernel_rfl) (fun _ _ _ h => h) (Or.inl ⟨by kernel_rfl, ?_⟩) (by assumption) ?_; rotate_left; (focus (intro w hSw; (try dsimp only at hSw); go_simp; (try with_reducible rfl))); (try simp only [Act.put, List.getElem_toArray, List.getElem_cons_zero, List.setIfInBounds_toArray, List.set_cons_zero, List.set_cons_succ])
      refine wpAnyT_take (i := 1) (oi := _) (v := ?_) rfl (by kernel_rfl) (fun _ _ _ h => h) (Or.inl ⟨by kernel_rfl, ?_⟩) (by assumption) ?_; rotate_left; (focus (intro w hSw; (try dsimp only at hSw); go_simp; (try with_reducible rfl))); (try simp only [Act.put, List.getElem_toArray, List.getElem_cons_zero, List.getElem_cons_succ, List.setIfInBounds_toArray, List.set_cons_zero, List.set_cons_succ])
      refine wpAnyT_take (i := 2) (oi := _) (v := ?_) rfl (by kernel_rfl) (fun _ _ _ h => h) (Or.inl ⟨by kernel_rfl, ?_⟩) (by assumption) ?_; rotate_left; (focus (intro w hSw; (try dsimp only at hSw); go_simp; (try with_reducible rfl))); (try simp only [Act.put, List.getElem_toArray, List.getElem_cons_zero, List.getElem_cons_succ, List.setIfInBounds_toArray, List.set_cons_zero, List.set_cons_succ])
      refine wpAnyT_take (i := 3) (oi := _) (v := ?_) rfl (by kernel_rfl) (fun _ _ _ h => h) (Or.inl ⟨by kernel_rfl, ?_⟩) (by assumption) ?_; rotate_left; (focus (intro w hSw; (try dsimp only at hSw); go_simp; (try with_reducible rfl))); (try simp only [Act.put, List.getElem_toArray, List.getElem_cons_zero, List.getElem_cons_succ, List.setIfInBounds_toArray, List.set_cons_zero, List.set_cons_succ])
      refine wpAnyT_take (i := 4) (oi := _) (v := ?_) rfl (by kernel_rfl) (fun _ _ _ h => h) (Or.inl ⟨by kernel_rfl, ?_⟩) (by assumption) ?_; rotate_left; (focus (intro w hSw; (try dsimp only at hSw); go_simp; (try with_reducible rfl))); (try simp only [Act.put, List.getElem_toArray, List.getElem_cons_zero, List.getElem_cons_succ, List.setIfInBounds_toArray, List.set_cons_zero, List.set_cons_succ])
      refine wpAnyT_one (i := 5) (by kernel_rfl) rfl (fun K hK => ?_); go_simp
      refine (twin_calls wd (HDI.out.below HW0.out) HW0.out.size hdl).mono ?_
      rintro e w10 ⟨A', c', rfl, hc1, hc2, hown10, hb10⟩
      have HW10 := Lib.hid (HW0.out.trans (hb10.mono HW0.out.size))
      have HN10 := Lib.hid (newD_of hown10 HW0.out.size hc1 hc2)
      have hH10 := Hk.out _ HW10.out
      refine hK.out _ _ (fun _ => hH10) ?_
      have hs8 := HW10.out.size
      have HO10 := Lib.hid (own_below HO8.out HW10.out)
      clear hK K hown10 hb10 hc1 hc2 hHeld
      (try simp only [Act.put, List.getElem_toArray, List.getElem_cons_zero, List.getElem_cons_succ, List.setIfInBounds_toArray, List.set_cons_zero, List.set_cons_succ])
      refine wpAnyT_take (i := 6) (oi := _) (v := ?_) rfl (by kernel_rfl) (fun _ _ _ h => h) (Or.inl ⟨by kernel_rfl, ?_⟩) (by assumption) ?_; rotate_left; (focus (intro w hSw; (try dsimp only at hSw); go_simp; (try with_reducible rfl))); (try simp only [Act.put, List.getElem_toArray, List.getElem_cons_zero, List.getElem_cons_succ, List.setIfInBounds_toArray, List.set_cons_zero, List.set_cons_succ])
      refine wpAnyT_one (i := 7) (by kernel_rfl) rfl (fun K hK => ?_); go_simp
      have hH11 := Hk.out _ (HW10.out.alloc hs8 (.cells #[.int .i64 x.n, .slice A' x.d.length c'] 90))
      refine hK.out _ _ (fun _ => hH11) ?_
      clear hK K
      (try simp only [Act.put, List.getElem_toArray, List.getElem_cons_zero, List.getElem_cons_succ, List.setIfInBounds_toArray, List.set_cons_zero, List.set_cons_succ])
      have hs58 := HB5i.out.size
      have hm11 := Reads.made (n := 1) (size := 2) w10 #[.int .i64 x.n, .slice A' x.d.length c'] 90 rfl
      have hs11 : w5.heap.size ≤ (w10.alloc (.cells #[.int .i64 x.n, .slice A' x.d.length c'] 90)).heap.size := by simp; omega
      have hb11 : Below w10.heap.size w10 (w10.alloc (.cells #[.int .i64 x.n, .slice A' x.d.length c'] 90)) := (Below.refl _ _).alloc (Nat.le_refl _) _
      have HO11 := Lib.hid (own_below HO10.out hb11)
      have HM11 := Lib.hid hm11
      have HB11 := Lib.hid hb11
      clear hm11 hb11 HO10
      generalize w10.alloc (.cells #[.int .i64 x.n, .slice A' x.d.length c'] 90) = w11 at *
      refine wpAnyT_one (i := 8) (by kernel_rfl) rfl (fun K hK => ?_)
      refine step_append_sl _ rfl (.tmp 64) (.tmp 71) _ rfl w5.heap.size 90 _ 2 32 Tryz.underlying72 Tryz.infoP rfl (by omega) _ _ _ rfl HO11.out (w10.heap.size + 1) _ 1 1 _ rfl HM11.out (p_one' ⟨x.n, A', c', x.d⟩) (by unfold maxLen; omega) (by omega) hs11 ?_
      intro A12 c12 w12 hc121 hc122 hrd12 hbel12 hown12 hgr12 _
      have HO12 : Hid (w12.ownsRow w5.heap.size 90 2 (.slice A12 (l.length + 1) c12) (l.length + 1) (pCells (l ++ [⟨x.n, A', c', x.d⟩]))) := Lib.hid (by rw [pCells_snoc]; exact hown12)
      have hb8_12 : Below w5.heap.size w8 w12 := ((HW10.out.mono hs58).trans (HB11.out.mono (by omega))).trans hbel12
      have HB512 := Lib.hid (HB5i.out.trans hb8_12)
      have HB212 := Lib.hid (HB28.out.trans (hb8_12.mono HB25.out.size))
      have hro8 := HO8.out.lt
      have HN12 : Hid (NewD w8 w12 A' c' x.d) := Lib.hid (by
        have h1 := HN10.out.below HB11.out
        refine ⟨.of (reads_apart h1.by_.2 (Keep.of_grown (F := fun i => some i = (Value.slice A8 l.length c8).ownBlock) hgr12 (fun i hi => hi)) (fun hn a ha hf => ?_)), h1.len, h1.cm, h1.new⟩
        have := h1.new a ha hn
        have := (hro8 _ hf.symm).2
        omega)
      have HF12 := Lib.hid (HF.out.on HB212.out)
      have hH12 : w12.cell? ⟨w.heap.size, 2, none⟩ = some (.slice x.A x.d.length x.c) ∧ w12.cell? ⟨w.heap.size, 5, none⟩ = some (.int .i64 x.n) := ⟨HF12.out.b3.cell 2, HF12.out.b3.cell 5⟩
      refine hK.out _ _ (fun _ => hH12) ?_
      have hg75 : g7 < w5.heap.size := by have := HB25.out.size; have := HB7.out.lt; exact this
      have HB712 := Lib.hid (HB7.out.below HB512.out hg75)
      have hc12 : l.length + 1 ≤ c12 ∧ c12 ≤ maxLen := ⟨hc121, hc122⟩
      have HC12 := Lib.hid hc12
      clear hK K hc121 hc122 hrd12 hbel12 hown12 hgr12 hb8_12 HN10 HB11 HO11 HM11 hH11 hH10 HW10 HO8 HF8 HDI Hk HW0 HB28 hro8 hs11 hc12
      (try simp only [Act.put, List.getElem_toArray, List.getElem_cons_zero, List.getElem_cons_succ, List.setIfInBounds_toArray, List.set_cons_zero, List.set_cons_succ])
      refine wpAnyT_one (i := 9) (by kernel_rfl) rfl (fun K hK => ?_); go_simp; refine hK.out _ _ (fun _ => hH12) ?_; clear hK K; (try simp only [Act.put, List.getElem_toArray, List.getElem_cons_zero, List.getElem_cons_succ, List.setIfInBounds_toArray, List.set_cons_zero, List.set_cons_succ])
      have y3 : w12.cell? ⟨g7, 3, none⟩ = some (.slice u.PA u.parts.length u.pc) := HB712.out.cell 3
      have f3 := HB712.out.frozen 3
      refine wpAnyT_one (i := 10) (by kernel_rfl) rfl (fun K hK => ?_); go_simp
      refine hK.out _ _ (fun h => absurd rfl h) (wpAnyT_done (by kernel_rfl) ?_ _)
      clear hK K
      go_upto_region 18 with fail
      have HB7q := Lib.hid (HB712.out.set_ 3 (.slice A12 (l.length + 1) c12))
      have hbq : Below w2.heap.size w2 (w12.setCell ⟨g7, 3, none⟩ (.slice A12 (l.length + 1) c12)) := HB212.out.setCell (p := ⟨g7, 3, none⟩) (Nat.le_of_eq hg7) _
      have HBq := Lib.hid hbq
      have HFq := Lib.hid (HF.out.on hbq)
      have HOq := Lib.hid (own_setCell (p := ⟨g7, 3, none⟩) HO12.out hg75 (.slice A12 (l.length + 1) c12))
      have hg78 : g7 < w8.heap.size := Nat.lt_of_lt_of_le hg75 hs58
      have HNq : Hid (NewD w8 (w12.setCell ⟨g7, 3, none⟩ (.slice A12 (l.length + 1) c12)) A' c' x.d) := Lib.hid ⟨.of (reads_apart HN12.out.by_.2 ((Keep.refl (fun i => i = g7) w12).setCell (p := ⟨g7, 3, none⟩) (.inl rfl) _) (fun hn a ha hf => by have := HN12.out.new a ha hn; omega)), HN12.out.len, HN12.out.cm, HN12.out.new⟩
      have hs512 := HB512.out.size
      have hs5q : w5.heap.size ≤ (w12.setCell ⟨g7, 3, none⟩ (.slice A12 (l.length + 1) c12)).heap.size := by simpa using hs512
      clear HB712 y3 f3 HB212 HF12 HO12 HN12 hH12 hbq HB512 hs512
      generalize w12.setCell ⟨g7, 3, none⟩ (.slice A12 (l.length + 1) c12) = wq at *
      have z1 : wq.cell? ⟨R.g, 1, none⟩ = some (.slice R.AU R.ups.length R.cU) := HFq.out.at_.blk.cell 1
      have hun : R.ups.length ≤ 1000 := by rw [HLEN.out]; exact Nat.le_trans HI.out.un hn
      have hRD := HFq.out.at_.u_reads
      have hrg : R.g < wq.heap.size := HFq.out.at_.blk.lt
      go_wp2_with (at_builtin; go_must (refine wpList_append_sl _ rfl (.tmp 75) (.tmp 79) _ rfl wq.heap.size 74 _ 4 56 Tryz.underlying27 Tryz.infoU rfl (by omega) _ _ _ rfl (World.ownsRow_made wq #[] 0 (Nat.le_refl _) (Nat.zero_le _) rfl) wq.heap.size R.AU R.ups.length R.cU (uCells R.ups) rfl (hRD.below ((Below.refl _ _).alloc (Nat.le_refl _) _)) (u_one _) (by unfold maxLen; omega) (by omega) (by simp) ?_))
      intro A15 c15 w15 hc151 hc152 hrd15 hbel15 hown15 _ _
      have hown15' : w15.ownsRow wq.heap.size 74 4 (.slice A15 R.ups.length c15) R.ups.length (uCells R.ups) := by simpa using hown15
      have hb15 : Below wq.heap.size wq w15 := ((Below.refl _ _).alloc (Nat.le_refl _) _).trans hbel15
      have e15 : 0 + R.ups.length = R.ups.length := Nat.zero_add _
      try rw [e15]
      have HNU := Lib.hid (HFq.out.at_.newU hb15 hown15' (fun u hu => .inl hu))
      have HB7r := Lib.hid (HB7q.out.below hb15 HB7q.out.lt)
      have HBr := Lib.hid hb15
      have HOr := Lib.hid (own_below HOq.out hb15)
      have z1' : w15.cell? ⟨R.g, 1, none⟩ = some (.slice R.AU R.ups.length R.cU) := (HFq.out.at_.blk.below hb15 hrg).cell 1
      have f1' := (HFq.out.at_.blk.below hb15 hrg).frozen 1
      clear hc151 hc152 hrd15 hbel15 hown15 hown15' hb15 z1 hRD e15
      go_upto_region 19 with fail
      clear z1' f1'
      have hrw := HF.out.fr.foot R.g (.inl rfl)
      have hg7r : g7 ≠ R.g := by omega
      have HB7s := Lib.hid (HB7r.out.far (p := ⟨R.g, 1, none⟩) hg7r (.slice A15 R.ups.length c15))
      have hrb := HF.out.at_.gb
      have hb2 := HF.out.at_.bw
      have hrg5 : R.g < w5.heap.size := by have := HB25.out.size; omega
      have HOs := Lib.hid (own_setCell (p := ⟨R.g, 1, none⟩) HOr.out hrg5 (.slice A15 R.ups.length c15))
      have hnu := HNU.out
      have HNs : Hid (RD (w15.setCell ⟨R.g, 1, none⟩ (.slice A15 R.ups.length c15)) { R with ups := R.ups, AU := A15, cU := c15 } A' c' x.d) := Lib.hid (by
        have h1 : RD wq R A' c' x.d := ⟨HNq.out.by_, HNq.out.len, HNq.out.cm, fun hn a ha hf => by have := HF.out.fr.foot _ hf; have := HNq.out.new a ha hn; omega⟩
        exact h1.kept hnu.2.1 hnu.2.2)
      have hsq := HBr.out.size
      generalize hwr : w15.setCell ⟨R.g, 1, none⟩ (.slice A15 R.ups.length c15) = wr at *
      have HRUs : Hid (RU wr { R with ups := R.ups, AU := A15, cU := c15 } { u with PA := A12, pc := c12, parts := l ++ [⟨x.n, A', c', x.d⟩] }) := Lib.hid (by
        have hlen : (l ++ [(⟨x.n, A', c', x.d⟩ : Rp)]).length = l.length + 1 := by simp
        refine ⟨⟨?_, by show (l ++ [_]).length ≤ c12; rw [hlen]; exact HC12.out.1, HC12.out.2, ?_⟩, fun p hp => ?_⟩
        · show Reads wr wr.heap.size 2 A12 (l ++ [_]).length (pCells (l ++ [_]))
          rw [hlen]
          exact Reads.of_own HOs.out
        · show Out _ A12 (l ++ [_]).length
          intro hn a ha hf
          have h1 := High.own HOq.out (Nat.le_refl _) a ha
          have h3 := (HOq.out.lt a.block (by rw [ha]; rfl)).2
          rcases hnu.2.2 _ hf with h2 | h2
          · have := HF.out.fr.foot _ h2; have := HB25.out.size; omega
          · omega
        · rcases List.mem_append.1 hp with h1 | h1
          · rw [HL.out] at h1
            have h2 := HRU.out.ud p (List.mem_filter.1 h1).1
            exact (h2.below HBq.out).kept hnu.2.1 hnu.2.2
          · rw [List.mem_singleton.1 h1]
            exact HNs.out)
      have z1 : wr.cell? ⟨R.g, 1, none⟩ = some (.slice A15 R.ups.length c15) := hnu.1.blk.cell 1
      obtain ⟨b2, e2, hbb, hbl⟩ := own_form hnu.1.ru (Nat.lt_of_le_of_lt (Nat.zero_le _) hkr)
      have hro := hnu.1.ru
      unfold RS.uV at hro
      rw [e2] at hro
      have e0' : A15 = some ⟨b2, 0, none⟩ := e2
      have hcell : ∀ j, j < 4 → ∃ v, wr.cell? ⟨b2, k * 4 + j, none⟩ = some v := fun j hj => by
        rw [hro.cellAt (k * 4 + j) (by show _ < R.ups.length * 4; omega)]
        have hl : k * 4 + j < (uCells R.ups).length := by have := hro.1; rw [this]; show _ < R.ups.length * 4; omega
        exact ⟨_, List.getElem?_eq_getElem hl⟩
      obtain ⟨v0, x0⟩ := hcell 0 (by omega)
      obtain ⟨v1, x1⟩ := hcell 1 (by omega)
      obtain ⟨v2, x2⟩ := hcell 2 (by omega)
      obtain ⟨v3, x3⟩ := hcell 3 (by omega)
      rw [Nat.add_zero] at x0
      have y0 := hro.frozenAt (k * 4)
      have y1 := hro.frozenAt (k * 4 + 1)
      have y2 := hro.frozenAt (k * 4 + 2)
      have y3 := hro.frozenAt (k * 4 + 3)
      have m0 : wr.cell? ⟨g7, 0, none⟩ = some (.int .i64 u.id) := HB7s.out.cell 0
      have m1 : wr.cell? ⟨g7, 1, none⟩ = some (.int .i64 u.born) := HB7s.out.cell 1
      have m2 : wr.cell? ⟨g7, 2, none⟩ = some (.string u.key) := HB7s.out.cell 2
      have m3 : wr.cell? ⟨g7, 3, none⟩ = some (.slice A12 (l.length + 1) c12) := HB7s.out.cell 3
      have HSO := Lib.hid (hnu.1.setU (R := { R with ups := R.ups, AU := A15, cU := c15 }) e0' hkr HRUs.out)
      have hlen1 : (l ++ [(⟨x.n, A', c', x.d⟩ : Rp)]).length = l.length + 1 := by simp
      have hso := HSO.out
      dsimp only at hso
      rw [hlen1] at hso
      have HSO := Lib.hid hso
      clear hso hlen1 hro hcell
      rw [e0'] at z1
      clear e2
      go_still_tail 7, (by kernel_rfl)
      go_upto_region 20 with fail
      clear x0 x1 x2 x3 y0 y1 y2 y3 m0 m1 m2 m3 z1
      have hso := HSO.out
      have hk8 := HB25.out.size
      have hxz : FX w w2 (set4 wr b2 (k * 4) (.int .i64 u.id) (.int .i64 u.born) (.string u.key) (.slice A12 (l.length + 1) c12)).drew base R { R with ups := R.ups.set k { u with PA := A12, pc := c12, parts := l ++ [⟨x.n, A', c', x.d⟩] }, AU := A15, cU := c15 } x := FX.drewN ⟨HF.out.fr, Turn.parted HBq.out hnu.2.1 hnu.2.2 hso.2.1 hso.2.2 hso.1 rfl rfl (fun v hv => by
        rcases List.mem_or_eq_of_mem_set hv with h1 | h1
        · exact .inl h1
        · refine .inr fun b hb => ?_
          subst h1
          rcases hb with ⟨hn', a, ha, rfl⟩ | ⟨p, hp, hn', a, ha, rfl⟩
          · have := High.own HOq.out (Nat.le_refl _) a ha
            exact .inr (by omega)
          · rcases List.mem_append.1 hp with h2 | h2
            · rw [HL.out] at h2
              exact .inl (.inr ⟨u, hu ▸ gu_mem hkr, .inr ⟨p, (List.mem_filter.1 h2).1, hn', a, ha, rfl⟩⟩)
            · rw [List.mem_singleton.1 h2] at ha hn'
              have := HNq.out.new a ha hn'
              exact .inr (by omega))⟩ 1
      have HSI : Hid (Sim { R with ups := R.ups.set k { u with PA := A12, pc := c12, parts := l ++ [⟨x.n, A', c', x.d⟩] }, AU := A15, cU := c15 } { s with all := s.all + PS.more pu x.pure, ups := mput ltI s.ups x.id { pu with parts := mput ltI pu.parts x.n x.d } }) := Lib.hid (by
        rw [HL.out]
        exact HSIM.out.setU HRS.out hk (by rw [hku]) _ _ _ (HSU.out.part _ _ _ _))
      have HXZ := Lib.hid hxz
      unfold set4 at HXZ
      clear hxz hso HSO hnu HNU HRUs HNs HOs HB7s HB7r HBr HOr HNq HOq HFq HBq HB7q
      generalize ((((wr.setCell ⟨b2, k * 4, none⟩ (.int .i64 u.id)).setCell ⟨b2, k * 4 + 1, none⟩ (.int .i64 u.born)).setCell ⟨b2, k * 4 + 2, none⟩ (.string u.key)).setCell ⟨b2, k * 4 + 3, none⟩ (.slice A12 (l.length + 1) c12)).drew = wz at *
      have q0 : wz.cell? ⟨w.heap.size + 1, 0, none⟩ = some (.int .i64 0) := HXZ.out.b4.cell 0
      have p0 : wz.frozen? ⟨w.heap.size + 1, 0, none⟩ = false := HXZ.out.b4.frozen 0
      have q1 : wz.cell? ⟨w.heap.size + 1, 1, none⟩ = some (.slice none 0 0) := HXZ.out.b4.cell 1
      have p1 : wz.frozen? ⟨w.heap.size + 1, 1, none⟩ = false := HXZ.out.b4.frozen 1
      have q2 : wz.cell? ⟨w.heap.size + 1, 2, none⟩ = some (.int .i64 0) := HXZ.out.b4.cell 2
      have p2 : wz.frozen? ⟨w.heap.size + 1, 2, none⟩ = false := HXZ.out.b4.frozen 2
      have q3 : wz.cell? ⟨w.heap.size + 1, 3, none⟩ = some (.int .i64 0) := HXZ.out.b4.cell 3
      have p3 : wz.frozen? ⟨w.heap.size + 1, 3, none⟩ = false := HXZ.out.b4.frozen 3
      have q4 : wz.cell? ⟨w.heap.size + 1, 4, none⟩ = some (.int .i64 0) := HXZ.out.b4.cell 4
      have p4 : wz.frozen? ⟨w.heap.size + 1, 4, none⟩ = false := HXZ.out.b4.frozen 4
      have q5 : wz.cell? ⟨w.heap.size + 1, 5, none⟩ = some (.slice none 0 0) := HXZ.out.b4.cell 5
      have p5 : wz.frozen? ⟨w.heap.size + 1, 5, none⟩ = false := HXZ.out.b4.frozen 5
      have q6 : wz.cell? ⟨w.heap.size + 1, 6, none⟩ = some (.bool false) := HXZ.out.b4.cell 6
      have p6 : wz.frozen? ⟨w.heap.size + 1, 6, none⟩ = false := HXZ.out.b4.frozen 6
      go_wp2
      obtain ⟨hw, hT, hK⟩ := HXZ.out.fin (.int .i64 0) (.slice none 0 0) (.int .i64 0) (.int .i64 0) (.int .i64 0) (.slice none 0 0) (.bool false)
      unfold set7 at hw hT hK
      refine bodyPost_ret (results_cell_row rfl _ _ (w.heap.size + 1) 43 #[(.int .i64 0), (.slice none 0 0), (.int .i64 0), (.int .i64 0), (.int .i64 0), (.slice none 0 0), (.bool false)] (0, 0) _ rfl hw Tryz.underlying43 rfl (by kernel_rfl)) rfl ?_
      exact ⟨_, _, rfl, by rw [HRR.out]; exact rep_plain 0 0 0 0, hT, by rw [HRR.out]; exact HSI.out⟩
end Rf
end Go.Proofs.YtlljpjehalodfaaGreat
