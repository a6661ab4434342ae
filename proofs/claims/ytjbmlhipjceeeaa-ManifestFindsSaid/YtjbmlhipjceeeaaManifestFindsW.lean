/- The walk of ManifestFinds. -/
import Derived.Test.YtjbmlhipjceeeaaProg
import Derived.Test.YtjbmlhipjceeeaaMfX
import Derived.Test.YtjbmlhipjceeeaaMfZ
namespace Go.Proofs.Ytjbmlhipjceeeaa.lawManifestFinds
open Go.RowKit Go.Proofs.Ytjbmlhipjceeeaa Go.Proofs.Ytjbmlhipjceeeaa.Mf

theorem find_fi {k : ByteArray} : ∀ {l : List En}, l.find? (keyIs k) = if fi (keyIs k) l < l.length then some (gt l (fi (keyIs k) l)) else none
  | [] => rfl
  | x :: r => by
    cases hx : keyIs k x
    · have e : fi (keyIs k) (x :: r) = fi (keyIs k) r + 1 := by show (if keyIs k x = true then 0 else fi (keyIs k) r + 1) = _; rw [hx]; rfl
      rw [List.find?_cons, hx, e, List.length_cons]
      show r.find? (keyIs k) = _
      rw [find_fi]
      by_cases h : fi (keyIs k) r < r.length
      · rw [if_pos h, if_pos (by omega)]; rfl
      · rw [if_neg h, if_neg (by omega)]
    · have e : fi (keyIs k) (x :: r) = 0 := by show (if keyIs k x = true then 0 else fi (keyIs k) r + 1) = _; rw [hx]; rfl
      rw [List.find?_cons, hx, e, if_pos (by simp)]
      rfl
theorem find_ix {k : ByteArray} {l : List En} : (∃ i, i < l.length ∧ l.find? (keyIs k) = some (gt l i) ∧ ix (keyIs k) l = (i : Int)) ∨ (l.find? (keyIs k) = none ∧ ix (keyIs k) l = -1) := by
  rw [find_fi]
  unfold ix
  have := fi_le (keyIs k) l
  by_cases h : fi (keyIs k) l < l.length
  · exact .inl ⟨_, h, if_pos h, if_neg (by omega)⟩
  · exact .inr ⟨if_neg h, if_pos (by omega)⟩
set_option maxRecDepth 100000 in
set_option maxHeartbeats 3200000 in
theorem didR_of (w : World) {B : Nat} {m : Md} {p : Pl} (h : Man w B m p) (hB : B ≤ w.heap.size) (y : Ow) : Calls Try.prog 16 #[mdV m p, owV y] w fun e w' => e = .returned (.bool (m.O.any (didB y))) ∧ Below w.heap.size w w' := by
  have HT : Hid (∀ W, Below (w.heap.size + 2) ((w.alloc (.cells #[.int .i64 m.gen, .int .i64 m.cut, .int .i64 m.fence, .slice p.AE m.E.length p.cE, .slice p.AM m.M.length p.cM, .slice p.AO m.O.length p.cO] 26)).alloc (.cells #[.int .i64 y.agent, .int .i64 y.life, .int .i64 y.count] 29)) W → (W.cell? ⟨w.heap.size, 0, none⟩ = some (.int .i64 m.gen) ∧ W.cell? ⟨w.heap.size, 1, none⟩ = some (.int .i64 m.cut) ∧ W.cell? ⟨w.heap.size, 2, none⟩ = some (.int .i64 m.fence) ∧ W.cell? ⟨w.heap.size, 3, none⟩ = some (.slice p.AE m.E.length p.cE) ∧ W.cell? ⟨w.heap.size, 4, none⟩ = some (.slice p.AM m.M.length p.cM) ∧ W.cell? ⟨w.heap.size, 5, none⟩ = some (.slice p.AO m.O.length p.cO)) ∧ W.cell? ⟨(w.heap.size + 1), 0, none⟩ = some (.int .i64 y.agent) ∧ W.cell? ⟨(w.heap.size + 1), 1, none⟩ = some (.int .i64 y.life) ∧ W.cell? ⟨(w.heap.size + 1), 2, none⟩ = some (.int .i64 y.count)) := Lib.hid fun W hW => by
    have h1 := (((Blk.new w 26 #[.int .i64 m.gen, .int .i64 m.cut, .int .i64 m.fence, .slice p.AE m.E.length p.cE, .slice p.AM m.M.length p.cM, .slice p.AO m.O.length p.cO]).alloc (.cells #[.int .i64 y.agent, .int .i64 y.life, .int .i64 y.count] 29)).below hW (by omega))
    have h2 := Blk.new (w.alloc (.cells #[.int .i64 m.gen, .int .i64 m.cut, .int .i64 m.fence, .slice p.AE m.E.length p.cE, .slice p.AM m.M.length p.cM, .slice p.AO m.O.length p.cO] 26)) 29 #[.int .i64 y.agent, .int .i64 y.life, .int .i64 y.count]
    rw [World.size_alloc] at h2
    have h3 := Blk.below h2 hW (by omega)
    exact ⟨⟨h1.cell 0, h1.cell 1, h1.cell 2, h1.cell 3, h1.cell 4, h1.cell 5⟩, ⟨h3.cell 0, h3.cell 1, h3.cell 2⟩⟩
  have HB0 : Hid (∀ W, Below (w.heap.size + 2) ((w.alloc (.cells #[.int .i64 m.gen, .int .i64 m.cut, .int .i64 m.fence, .slice p.AE m.E.length p.cE, .slice p.AM m.M.length p.cM, .slice p.AO m.O.length p.cO] 26)).alloc (.cells #[.int .i64 y.agent, .int .i64 y.life, .int .i64 y.count] 29)) W → Below w.heap.size w W ∧ w.heap.size + 2 ≤ W.heap.size) := Lib.hid fun W hW => ⟨(((Below.refl w.heap.size w).alloc (Nat.le_refl _) _).alloc (by simp) _).trans (hW.mono (by omega)), by have := hW.size; simp at this; omega⟩
  have HR := Lib.hid fun W (hW : Below w.heap.size w W) => h.ro.below (hW.mono hB)
  have hle := h.lo
  clear h
  obtain ⟨AE, cE, AM, cM, AO, cO⟩ := p
  dsimp only at *
  have HW := Lib.hid (Below.refl (w.heap.size + 2) ((w.alloc (.cells #[.int .i64 m.gen, .int .i64 m.cut, .int .i64 m.fence, .slice AE m.E.length cE, .slice AM m.M.length cM, .slice AO m.O.length cO] 26)).alloc (.cells #[.int .i64 y.agent, .int .i64 y.life, .int .i64 y.count] 29)))
  go_enter Try.func16, Try.ntmps16
  go_wp2
  generalize (w.alloc (.cells #[.int .i64 m.gen, .int .i64 m.cut, .int .i64 m.fence, .slice AE m.E.length cE, .slice AM m.M.length cM, .slice AO m.O.length cO] 26)).alloc (.cells #[.int .i64 y.agent, .int .i64 y.life, .int .i64 y.count] 29) = wm at *
  go_loopw [10] (fun i wr => ∃ j : Nat, j ≤ m.O.length ∧ i = .int .i64 (j : Int) ∧ Hid (∀ i, i < j → didB y (gt m.O i) = false) ∧ Hid (Below (w.heap.size + 2) wm wr)) (fun i _ => m.O.length - (intOf i).toNat)
  case atStart => exact ⟨0, Nat.zero_le _, rfl, Lib.hid (fun i hi => absurd hi (Nat.not_lt_zero i)), HW⟩
  case round =>
    clear HW
    obtain ⟨j, hj, rfl, HF, HW⟩ := hrel
    obtain ⟨hb00, hsz⟩ := HB0.out wr HW.out
    obtain ⟨-, z0, z1, z2⟩ := HT.out wr HW.out
    have hg1 : w.heap.size + 1 < wr.heap.size := by omega
    by_cases hlt : j < m.O.length
    · have hr := HR.out wr hb00
      obtain ⟨b, off, rfl, hbB⟩ := row_addr hr (by omega)
      obtain ⟨p0, p1, p2⟩ : wr.cell? ⟨b, off + j * 3, none⟩ = some (.int .i64 (gt m.O j).agent) ∧ wr.cell? ⟨b, off + j * 3 + 1, none⟩ = some (.int .i64 (gt m.O j).life) ∧ wr.cell? ⟨b, off + j * 3 + 2, none⟩ = some (.int .i64 (gt m.O j).count) := ⟨row_cell ocs_len hr hlt (j := 0) rfl, row_cell ocs_len hr hlt (j := 1) rfl, row_cell ocs_len hr hlt (j := 2) rfl⟩
      have HE : Hid (Below (w.heap.size + 2) wm (wr.alloc (.cells #[.int .i64 (gt m.O j).agent, .int .i64 (gt m.O j).life, .int .i64 (gt m.O j).count] 29))) := Lib.hid (HW.out.alloc hsz _)
      have HNo : Hid (didB y (gt m.O j) = true → m.O.any (didB y) = true) := Lib.hid fun hh => any_yes (p := didB y) hlt hh
      have HY := Lib.hid (fun hh => any_step (p := didB y) HF.out hh)
      have HX : Hid (didB y (gt m.O j) = (decide ((gt m.O j).agent = y.agent) && decide ((gt m.O j).life = y.life) && decide (y.count ≤ (gt m.O j).count))) := Lib.hid rfl
      clear hr HF
      generalize gt m.O j = x at *
      by_cases e0 : x.agent = y.agent
      · have te0 : (x.agent == y.agent) = true := eqt e0
        by_cases e1 : x.life = y.life
        · have te1 : (x.life == y.life) = true := eqt e1
          by_cases e2 : y.count ≤ x.count
          · have te2 : decide (y.count ≤ x.count) = true := dct e2
            have HV := Lib.hid (HNo.out (by rw [HX.out, dct e0, dct e1, dct e2]; rfl))
            clear e0 e1 e2 HX HNo HY
            go_wp2
            go_ret
            exact ⟨by rw [HV.out]; rfl, (HB0.out _ HE.out).1⟩
          · have te2 : decide (y.count ≤ x.count) = false := dcf e2
            have HY2 := Lib.hid (HY.out (by rw [HX.out, dcf e2]; simp))
            (try clear e0); (try clear e1); (try clear e2)
            clear HX HNo HY
            go_wp2
            go_roundw
            case rel => exact ⟨j + 1, by omega, by go_num, HY2, HE⟩
            case measure => simp [intOf]; omega
        · have te1 : (x.life == y.life) = false := eqf e1
          have HY2 := Lib.hid (HY.out (by rw [HX.out, dcf e1]; simp))
          (try clear e0); (try clear e1); (try clear e2)
          clear HX HNo HY
          go_wp2
          go_roundw
          case rel => exact ⟨j + 1, by omega, by go_num, HY2, HE⟩
          case measure => simp [intOf]; omega
      · have te0 : (x.agent == y.agent) = false := eqf e0
        have HY2 := Lib.hid (HY.out (by rw [HX.out, dcf e0]; simp))
        (try clear e0); (try clear e1); (try clear e2)
        clear HX HNo HY
        go_wp2
        go_roundw
        case rel => exact ⟨j + 1, by omega, by go_num, HY2, HE⟩
        case measure => simp [intOf]; omega
    obtain rfl : j = m.O.length := by omega
    have HV : Hid (m.O.any (didB y) = false) := Lib.hid (any_no HF.out)
    go_wp2
    go_ret
    exact ⟨by rw [HV.out]; rfl, hb00⟩

set_option maxRecDepth 100000 in
set_option maxHeartbeats 12800000 in
theorem body (w : World) {B : Nat} {m : Md} {p : Pl} (h : Man w B m p) (hB : B ≤ w.heap.size) (hm : Sh w) (k : Int) (s : ByteArray) (y : Ow) :
    Calls Try.prog 4 #[mdV m p, .int .i64 k, .string s, owV y] w fun e w' => e = .returned (.bool true) ∧ Below w.heap.size w w' := by
  have HT : Hid (∀ W, Below (w.heap.size + 2) ((w.alloc (.cells #[.int .i64 m.gen, .int .i64 m.cut, .int .i64 m.fence, .slice p.AE m.E.length p.cE, .slice p.AM m.M.length p.cM, .slice p.AO m.O.length p.cO] 26)).alloc (.cells #[.int .i64 y.agent, .int .i64 y.life, .int .i64 y.count] 29)) W → (W.cell? ⟨w.heap.size, 0, none⟩ = some (.int .i64 m.gen) ∧ W.cell? ⟨w.heap.size, 1, none⟩ = some (.int .i64 m.cut) ∧ W.cell? ⟨w.heap.size, 2, none⟩ = some (.int .i64 m.fence) ∧ W.cell? ⟨w.heap.size, 3, none⟩ = some (.slice p.AE m.E.length p.cE) ∧ W.cell? ⟨w.heap.size, 4, none⟩ = some (.slice p.AM m.M.length p.cM) ∧ W.cell? ⟨w.heap.size, 5, none⟩ = some (.slice p.AO m.O.length p.cO)) ∧ W.cell? ⟨(w.heap.size + 1), 0, none⟩ = some (.int .i64 y.agent) ∧ W.cell? ⟨(w.heap.size + 1), 1, none⟩ = some (.int .i64 y.life) ∧ W.cell? ⟨(w.heap.size + 1), 2, none⟩ = some (.int .i64 y.count)) := Lib.hid fun W hW => by
    have h1 := (((Blk.new w 26 #[.int .i64 m.gen, .int .i64 m.cut, .int .i64 m.fence, .slice p.AE m.E.length p.cE, .slice p.AM m.M.length p.cM, .slice p.AO m.O.length p.cO]).alloc (.cells #[.int .i64 y.agent, .int .i64 y.life, .int .i64 y.count] 29)).below hW (by omega))
    have h2 := Blk.new (w.alloc (.cells #[.int .i64 m.gen, .int .i64 m.cut, .int .i64 m.fence, .slice p.AE m.E.length p.cE, .slice p.AM m.M.length p.cM, .slice p.AO m.O.length p.cO] 26)) 29 #[.int .i64 y.agent, .int .i64 y.life, .int .i64 y.count]
    rw [World.size_alloc] at h2
    have h3 := Blk.below h2 hW (by omega)
    exact ⟨⟨h1.cell 0, h1.cell 1, h1.cell 2, h1.cell 3, h1.cell 4, h1.cell 5⟩, ⟨h3.cell 0, h3.cell 1, h3.cell 2⟩⟩
  have HB0 : Hid (∀ W, Below (w.heap.size + 2) ((w.alloc (.cells #[.int .i64 m.gen, .int .i64 m.cut, .int .i64 m.fence, .slice p.AE m.E.length p.cE, .slice p.AM m.M.length p.cM, .slice p.AO m.O.length p.cO] 26)).alloc (.cells #[.int .i64 y.agent, .int .i64 y.life, .int .i64 y.count] 29)) W → Below w.heap.size w W ∧ w.heap.size + 2 ≤ W.heap.size) := Lib.hid fun W hW => ⟨(((Below.refl w.heap.size w).alloc (Nat.le_refl _) _).alloc (by simp) _).trans (hW.mono (by omega)), by have := hW.size; simp at this; omega⟩
  have HLv := Lib.hid fun W (hW : Below w.heap.size w W) => lives_calls W (hm.below hW hm.lt)
  have HFw := Lib.hid fun W (hW : Below w.heap.size w W) => few_calls W (h.below (hW.mono hB)) (by have := hW.size; omega)
  have HFi := Lib.hid fun W (hW : Below w.heap.size w W) => find_of W (h.below (hW.mono hB)) (by have := hW.size; omega) s
  have HFr := Lib.hid fun W (hW : Below w.heap.size w W) => findR_of W (h.below (hW.mono hB)) (by have := hW.size; omega) s
  have HMk := Lib.hid fun W (hW : Below w.heap.size w W) => mark_of W (h.below (hW.mono hB)) (by have := hW.size; omega) k
  have HSq := Lib.hid fun W (hW : Below w.heap.size w W) => seqR_of W (h.below (hW.mono hB)) (by have := hW.size; omega) k
  have HDi := Lib.hid fun W (hW : Below w.heap.size w W) => did_of W (h.below (hW.mono hB)) (by have := hW.size; omega) y
  have HDr := Lib.hid fun W (hW : Below w.heap.size w W) => didR_of W (h.below (hW.mono hB)) (by have := hW.size; omega) y
  have HRE := Lib.hid fun W (hW : Below w.heap.size w W) => h.re.below (hW.mono hB)
  have hle := h.le
  have HIx := Lib.hid (find_ix (k := s) (l := m.E))
  clear h hm hB
  obtain ⟨AE, cE, AM, cM, AO, cO⟩ := p
  dsimp only at *
  have HW1 := Lib.hid (Below.refl (w.heap.size + 2) ((w.alloc (.cells #[.int .i64 m.gen, .int .i64 m.cut, .int .i64 m.fence, .slice AE m.E.length cE, .slice AM m.M.length cM, .slice AO m.O.length cO] 26)).alloc (.cells #[.int .i64 y.agent, .int .i64 y.life, .int .i64 y.count] 29)))
  generalize seqL k m.M = sq at *
  generalize m.O.any (didB y) = dd at *
  go_enter Try.func4, Try.ntmps4
  go_wp2_with fail
  generalize (w.alloc (.cells #[.int .i64 m.gen, .int .i64 m.cut, .int .i64 m.fence, .slice AE m.E.length cE, .slice AM m.M.length cM, .slice AO m.O.length cO] 26)).alloc (.cells #[.int .i64 y.agent, .int .i64 y.life, .int .i64 y.count] 29) = wm at *
  have hb0 := HB0.out _ HW1.out
  refine (HLv.out _ hb0.1).mono ?_
  rintro e w1 ⟨rfl, hb1⟩
  have HW2 : Hid (Below (w.heap.size + 2) wm w1) := Lib.hid (hb1.mono hb0.2)
  have hb2 := HB0.out _ HW2.out
  obtain ⟨⟨s0, s1, s2, s3, s4, s5⟩, -⟩ := HT.out _ HW2.out
  clear hb1 HW1 hb0
  have HX := HFw.out _ hb2.1
  generalize fewB m = fb at *
  cases fb
  · have HX2 := Lib.hid HX
    clear HX
    go_wp2_with fail
    refine HX2.out.mono ?_
    rintro e w3 ⟨rfl, hb3⟩
    have hb4 := hb2.1.trans (hb3.mono hb2.1.size)
    go_wp2_with fail
    refine (HLv.out _ hb4).mono ?_
    rintro e w9 ⟨rfl, hb9⟩
    go_wp2
    go_ret
    exact ⟨rfl, hb4.trans (hb9.mono hb4.size)⟩
  have HX2 := Lib.hid HX
  clear HX
  by_cases hk : s.size ≤ 100
  · have f0 : decide ((100 : Int) < (s.size : Int)) = false := dcf (by omega)
    go_wp2_with fail
    refine HX2.out.mono ?_
    rintro e w3 ⟨rfl, hb3⟩
    have HW3 : Hid (Below (w.heap.size + 2) wm w3) := Lib.hid (HW2.out.trans (hb3.mono hb2.2))
    have hb4 := HB0.out _ HW3.out
    clear s0 s1 s2 s3 s4 s5 hb3 hb2 HW2
    obtain ⟨⟨s0, s1, s2, s3, s4, s5⟩, -⟩ := HT.out _ HW3.out
    rcases HIx.out with ⟨i, hi, hf, hx⟩ | ⟨hf, hx⟩
    · skip
      generalize hgx : gt m.E i = x at *
      have HGx := Lib.hid hgx
      clear hgx
      have HFi2 : Hid (∀ W, Below w.heap.size w W → Calls Try.prog 11 #[mdV m ⟨AE, cE, AM, cM, AO, cO⟩, .string s] W fun e w' => e = .returned (.tuple #[.agg #[.string x.key, .int .i64 x.window, .string x.part, .int .i64 x.first, .int .i64 x.last, .int .i64 x.rows, .int .i64 x.size, .int .u32 x.sum, .int .i64 x.born], .bool true]) ∧ Below W.heap.size W w') := Lib.hid fun W hW => by
        have := HFi.out W hW
        rw [hf] at this
        exact this
      have HFr2 : Hid (∀ W, Below w.heap.size w W → Calls Try.prog 12 #[mdV m ⟨AE, cE, AM, cM, AO, cO⟩, .string s] W fun e w' => e = .returned (.int .i64 (i : Int)) ∧ Below W.heap.size W w') := Lib.hid fun W hW => by
        have := HFr.out W hW
        rw [hx] at this
        exact this
      clear hf hx HIx HFi HFr
      go_wp2_with fail
      refine (HFi2.out _ hb4.1).mono ?_
      rintro e w4 ⟨rfl, hb5⟩
      have HW4 : Hid (Below (w.heap.size + 2) wm w4) := Lib.hid (HW3.out.trans (hb5.mono hb4.2))
      have hb6 := HB0.out _ HW4.out
      clear s0 s1 s2 s3 s4 s5 hb5 hb4 HW3 f0 hk HFi2
      obtain ⟨⟨s0, s1, s2, s3, s4, s5⟩, -⟩ := HT.out _ HW4.out
      have hg0 : w.heap.size < w4.heap.size := by omega
      have HW5 : Hid (Below (w.heap.size + 2) wm (w4.alloc (.cells #[.string x.key, .int .i64 x.window, .string x.part, .int .i64 x.first, .int .i64 x.last, .int .i64 x.rows, .int .i64 x.size, .int .u32 x.sum, .int .i64 x.born] 37))) := Lib.hid (HW4.out.alloc hb6.2 _)
      have HBx := Lib.hid (Blk.new w4 37 #[.string x.key, .int .i64 x.window, .string x.part, .int .i64 x.first, .int .i64 x.last, .int .i64 x.rows, .int .i64 x.size, .int .u32 x.sum, .int .i64 x.born])
      have hz5 : w4.heap.size < (w4.alloc (.cells #[.string x.key, .int .i64 x.window, .string x.part, .int .i64 x.first, .int .i64 x.last, .int .i64 x.rows, .int .i64 x.size, .int .u32 x.sum, .int .i64 x.born] 37)).heap.size := by simp
      have HFr3 := Lib.hid (HFr2.out _ (HB0.out _ HW5.out).1)
      have h5 := (HB0.out _ HW5.out).2
      go_wp2_with fail
      refine HFr3.out.mono ?_
      rintro e w6 ⟨rfl, hb7⟩
      have HW6 : Hid (Below (w.heap.size + 2) wm w6) := Lib.hid (HW5.out.trans (hb7.mono h5))
      have HBy := Lib.hid (HBx.out.below hb7 hz5)
      clear s0 s1 s2 s3 s4 s5 hb7 HW5 HBx HFr2 HFr3 hb6 HW4 h5 hz5
      have hb8 := HB0.out _ HW6.out
      obtain ⟨⟨s0, s1, s2, s3, s4, s5⟩, ⟨y0, y1, y2⟩⟩ := HT.out _ HW6.out
      obtain ⟨v0, v1, v2, v3, v4, v5, v6, v7, v8⟩ : w6.cell? ⟨w4.heap.size, 0, none⟩ = some (.string x.key) ∧ w6.cell? ⟨w4.heap.size, 1, none⟩ = some (.int .i64 x.window) ∧ w6.cell? ⟨w4.heap.size, 2, none⟩ = some (.string x.part) ∧ w6.cell? ⟨w4.heap.size, 3, none⟩ = some (.int .i64 x.first) ∧ w6.cell? ⟨w4.heap.size, 4, none⟩ = some (.int .i64 x.last) ∧ w6.cell? ⟨w4.heap.size, 5, none⟩ = some (.int .i64 x.rows) ∧ w6.cell? ⟨w4.heap.size, 6, none⟩ = some (.int .i64 x.size) ∧ w6.cell? ⟨w4.heap.size, 7, none⟩ = some (.int .u32 x.sum) ∧ w6.cell? ⟨w4.heap.size, 8, none⟩ = some (.int .i64 x.born) := ⟨HBy.out.cell 0, HBy.out.cell 1, HBy.out.cell 2, HBy.out.cell 3, HBy.out.cell 4, HBy.out.cell 5, HBy.out.cell 6, HBy.out.cell 7, HBy.out.cell 8⟩
      have hq : ∀ W, (binOp .neq 37 (.agg #[.string x.key, .int .i64 x.window, .string x.part, .int .i64 x.first, .int .i64 x.last, .int .i64 x.rows, .int .i64 x.size, .int .u32 x.sum, .int .i64 x.born]) (.agg #[.string x.key, .int .i64 x.window, .string x.part, .int .i64 x.first, .int .i64 x.last, .int .i64 x.rows, .int .i64 x.size, .int .u32 x.sum, .int .i64 x.born])).run Try.prog W = .ok (.bool false) W := fun W => by
        rw [neq_en, dct rfl]; rfl
      have hr := HRE.out w6 hb8.1
      obtain ⟨b, off, rfl, hbB⟩ := row_addr hr (by omega)
      obtain ⟨p0, p1, p2, p3, p4, p5, p6, p7, p8⟩ : w6.cell? ⟨b, off + i * 9, none⟩ = some (.string x.key) ∧ w6.cell? ⟨b, off + i * 9 + 1, none⟩ = some (.int .i64 x.window) ∧ w6.cell? ⟨b, off + i * 9 + 2, none⟩ = some (.string x.part) ∧ w6.cell? ⟨b, off + i * 9 + 3, none⟩ = some (.int .i64 x.first) ∧ w6.cell? ⟨b, off + i * 9 + 4, none⟩ = some (.int .i64 x.last) ∧ w6.cell? ⟨b, off + i * 9 + 5, none⟩ = some (.int .i64 x.rows) ∧ w6.cell? ⟨b, off + i * 9 + 6, none⟩ = some (.int .i64 x.size) ∧ w6.cell? ⟨b, off + i * 9 + 7, none⟩ = some (.int .u32 x.sum) ∧ w6.cell? ⟨b, off + i * 9 + 8, none⟩ = some (.int .i64 x.born) := by rw [← HGx.out]; exact ⟨row_cell ecs_len hr hi (j := 0) rfl, row_cell ecs_len hr hi (j := 1) rfl, row_cell ecs_len hr hi (j := 2) rfl, row_cell ecs_len hr hi (j := 3) rfl, row_cell ecs_len hr hi (j := 4) rfl, row_cell ecs_len hr hi (j := 5) rfl, row_cell ecs_len hr hi (j := 6) rfl, row_cell ecs_len hr hi (j := 7) rfl, row_cell ecs_len hr hi (j := 8) rfl⟩
      have i0 : (0 : Int) ≤ (i : Int) := by omega
      have i9 : (i : Int) < (m.E.length : Int) := by omega
      have f1 : decide ((0 : Int) ≤ (i : Int)) = true := dct i0
      clear hr
      go_wp2_with fail
      go_quiet (fail)
      clear s0 s1 s2 s3 s4 s5 y0 y1 y2 v0 v1 v2 v3 v4 v5 v6 v7 v8
      go_wp2_with fail
      refine wp_region_T 99 (fun w' => (w'.cell? ⟨w.heap.size, 0, none⟩ = some (.int .i64 m.gen) ∧ w'.cell? ⟨w.heap.size, 1, none⟩ = some (.int .i64 m.cut) ∧ w'.cell? ⟨w.heap.size, 2, none⟩ = some (.int .i64 m.fence) ∧ w'.cell? ⟨w.heap.size, 3, none⟩ = some (.slice (some ⟨b,off,none⟩) m.E.length cE) ∧ w'.cell? ⟨w.heap.size, 4, none⟩ = some (.slice AM m.M.length cM) ∧ w'.cell? ⟨w.heap.size, 5, none⟩ = some (.slice AO m.O.length cO)) ∧ w'.cell? ⟨(w.heap.size + 1), 0, none⟩ = some (.int .i64 y.agent) ∧ w'.cell? ⟨(w.heap.size + 1), 1, none⟩ = some (.int .i64 y.life) ∧ w'.cell? ⟨(w.heap.size + 1), 2, none⟩ = some (.int .i64 y.count)) (by kernel_rfl) (HT.out _ (below_drewN_ (below_drewN_ HW6.out _) 1)) (fun hHeld => ?_)
      refine wpAnyT_take (i := 0) (oi := _) (v := ?_) rfl (by kernel_rfl) (fun _ _ _ h => h) (Or.inl ⟨by kernel_rfl, ?_⟩) (by assumption) ?_; rotate_left; (focus (intro w hSw; (try dsimp only at hSw); go_simp; (try with_reducible rfl))); (try simp only [Act.put, List.getElem_toArray, List.getElem_cons_zero, List.setIfInBounds_toArray, List.set_cons_zero, List.set_cons_succ])
      refine wpAnyT_take (i := 1) (oi := _) (v := ?_) rfl (by kernel_rfl) (fun _ _ _ h => h) (Or.inl ⟨by kernel_rfl, ?_⟩) (by assumption) ?_; rotate_left; (focus (intro w hSw; (try dsimp only at hSw); go_simp; (try with_reducible rfl))); (try simp only [Act.put, List.getElem_toArray, List.getElem_cons_zero, List.getElem_cons_succ, List.setIfInBounds_toArray, List.set_cons_zero, List.set_cons_succ])
      refine wpAnyT_take (i := 3) (oi := _) (v := ?_) rfl (by kernel_rfl) (fun _ _ _ h => h) (Or.inl ⟨by kernel_rfl, ?_⟩) (by assumption) ?_; rotate_left; (focus (intro w hSw; (try dsimp only at hSw); go_simp; (try with_reducible rfl))); (try simp only [Act.put, List.getElem_toArray, List.getElem_cons_zero, List.getElem_cons_succ, List.setIfInBounds_toArray, List.set_cons_zero, List.set_cons_succ])
      refine wpAnyT_take (i := 4) (oi := _) (v := ?_) rfl (by kernel_rfl) (fun _ _ _ h => h) (Or.inl ⟨by kernel_rfl, ?_⟩) (by assumption) ?_; rotate_left; (focus (intro w hSw; (try dsimp only at hSw); go_simp; (try with_reducible rfl))); (try simp only [Act.put, List.getElem_toArray, List.getElem_cons_zero, List.getElem_cons_succ, List.setIfInBounds_toArray, List.set_cons_zero, List.set_cons_succ])
      refine wpAnyT_one (i := 2) (by kernel_rfl) rfl (fun K hK => ?_); go_simp
      refine (HMk.out _ (below_drewN_ (below_drewN_ hb8.1 _) 1)).mono ?_
      rintro e wa ⟨rfl, hba⟩
      have hWa : Below (w.heap.size + 2) wm wa := (below_drewN_ (below_drewN_ HW6.out _) 1).trans (hba.mono hb8.2)
      have hHa := HT.out _ hWa
      refine hK.out _ _ (fun _ => hHa) ?_
      clear hK K hHeld hba
      (try simp only [Act.put, List.getElem_toArray, List.getElem_cons_zero, List.getElem_cons_succ, List.setIfInBounds_toArray, List.set_cons_zero, List.set_cons_succ])
      refine wpAnyT_one (i := 5) (by kernel_rfl) rfl (fun K hK => ?_); go_simp
      refine (HSq.out _ (HB0.out _ hWa).1).mono ?_
      rintro e wb ⟨rfl, hbb⟩
      have hWb : Below (w.heap.size + 2) wm wb := hWa.trans (hbb.mono (HB0.out _ hWa).2)
      have hHb := HT.out _ hWb
      refine hK.out _ _ (fun _ => hHb) ?_
      clear hK K hHa hbb
      (try simp only [Act.put, List.getElem_toArray, List.getElem_cons_zero, List.getElem_cons_succ, List.setIfInBounds_toArray, List.set_cons_zero, List.set_cons_succ])
      refine wpAnyT_take (i := 6) (oi := _) (v := ?_) rfl (by kernel_rfl) (fun _ _ _ h => h) (Or.inl ⟨by kernel_rfl, ?_⟩) (by assumption) ?_; rotate_left; (focus (intro w hSw; (try dsimp only at hSw); go_simp; (try with_reducible rfl))); (try simp only [Act.put, List.getElem_toArray, List.getElem_cons_zero, List.getElem_cons_succ, List.setIfInBounds_toArray, List.set_cons_zero, List.set_cons_succ])
      refine wpAnyT_take (i := 7) (oi := _) (v := ?_) rfl (by kernel_rfl) (fun _ _ _ h => h) (Or.inl ⟨by kernel_rfl, ?_⟩) (by assumption) ?_; rotate_left; (focus (intro w hSw; (try dsimp only at hSw); go_simp; (try with_reducible rfl))); (try simp only [Act.put, List.getElem_toArray, List.getElem_cons_zero, List.getElem_cons_succ, List.setIfInBounds_toArray, List.set_cons_zero, List.set_cons_succ])
      refine wpAnyT_take (i := 8) (oi := _) (v := ?_) rfl (by kernel_rfl) (fun _ _ _ h => h) (Or.inl ⟨by kernel_rfl, ?_⟩) (by assumption) ?_; rotate_left; (focus (intro w hSw; (try dsimp only at hSw); go_simp; (try with_reducible rfl))); (try simp only [Act.put, List.getElem_toArray, List.getElem_cons_zero, List.getElem_cons_succ, List.setIfInBounds_toArray, List.set_cons_zero, List.set_cons_succ])
      refine wpAnyT_take (i := 9) (oi := _) (v := ?_) rfl (by kernel_rfl) (fun _ _ _ h => h) (Or.inl ⟨by kernel_rfl, ?_⟩) (by assumption) ?_; rotate_left; (focus (intro w hSw; (try dsimp only at hSw); go_simp; (try with_reducible rfl))); (try simp only [Act.put, List.getElem_toArray, List.getElem_cons_zero, List.getElem_cons_succ, List.setIfInBounds_toArray, List.set_cons_zero, List.set_cons_succ])
      refine wpAnyT_take (i := 11) (oi := _) (v := ?_) rfl (by kernel_rfl) (fun _ _ _ h => h) (Or.inl ⟨by kernel_rfl, ?_⟩) (by assumption) ?_; rotate_left; (focus (intro w hSw; (try dsimp only at hSw); go_simp; (try with_reducible rfl))); (try simp only [Act.put, List.getElem_toArray, List.getElem_cons_zero, List.getElem_cons_succ, List.setIfInBounds_toArray, List.set_cons_zero, List.set_cons_succ])
      refine wpAnyT_take (i := 12) (oi := _) (v := ?_) rfl (by kernel_rfl) (fun _ _ _ h => h) (Or.inl ⟨by kernel_rfl, ?_⟩) (by assumption) ?_; rotate_left; (focus (intro w hSw; (try dsimp only at hSw); go_simp; (try with_reducible rfl))); (try simp only [Act.put, List.getElem_toArray, List.getElem_cons_zero, List.getElem_cons_succ, List.setIfInBounds_toArray, List.set_cons_zero, List.set_cons_succ])
      refine wpAnyT_one (i := 10) (by kernel_rfl) rfl (fun K hK => ?_); go_simp
      refine (HDi.out _ (HB0.out _ hWb).1).mono ?_
      rintro e wc ⟨rfl, hbc⟩
      have hWc : Below (w.heap.size + 2) wm wc := hWb.trans (hbc.mono (HB0.out _ hWb).2)
      have hHc := HT.out _ hWc
      refine hK.out _ _ (fun _ => hHc) ?_
      clear hK K hHb hbc hWa
      (try simp only [Act.put, List.getElem_toArray, List.getElem_cons_zero, List.getElem_cons_succ, List.setIfInBounds_toArray, List.set_cons_zero, List.set_cons_succ])
      refine wpAnyT_one (i := 13) (by kernel_rfl) rfl (fun K hK => ?_); go_simp
      refine (HDr.out _ (HB0.out _ hWc).1).mono ?_
      rintro e we ⟨rfl, hbe⟩
      have hWe : Below (w.heap.size + 2) wm we := hWc.trans (hbe.mono (HB0.out _ hWc).2)
      have hHe := HT.out _ hWe
      refine hK.out _ _ (fun _ => hHe) ?_
      clear hK K hHc hbe hWb
      (try simp only [Act.put, List.getElem_toArray, List.getElem_cons_zero, List.getElem_cons_succ, List.setIfInBounds_toArray, List.set_cons_zero, List.set_cons_succ])
      refine wpAnyT_take (i := 14) (oi := _) (v := ?_) rfl (by kernel_rfl) (fun _ _ _ h => h) (Or.inl ⟨by kernel_rfl, ?_⟩) (by assumption) ?_; rotate_left; (focus (intro w hSw; (try dsimp only at hSw); go_simp; (try with_reducible rfl))); (try simp only [Act.put, List.getElem_toArray, List.getElem_cons_zero, List.getElem_cons_succ, List.setIfInBounds_toArray, List.set_cons_zero, List.set_cons_succ])
      refine wpAnyT_take (i := 15) (oi := _) (v := ?_) rfl (by kernel_rfl) (fun _ _ _ h => h) (Or.inl ⟨by kernel_rfl, ?_⟩) (by assumption) ?_; rotate_left; (focus (intro w hSw; (try dsimp only at hSw); go_simp; (try with_reducible rfl))); (try simp only [Act.put, List.getElem_toArray, List.getElem_cons_zero, List.getElem_cons_succ, List.setIfInBounds_toArray, List.set_cons_zero, List.set_cons_succ])
      refine wpAnyT_take (i := 16) (oi := _) (v := ?_) rfl (by kernel_rfl) (fun _ _ _ h => h) (Or.inl ⟨by kernel_rfl, ?_⟩) (by assumption) ?_; rotate_left; (focus (intro w hSw; (try dsimp only at hSw); go_simp; (try with_reducible rfl))); (try simp only [Act.put, List.getElem_toArray, List.getElem_cons_zero, List.getElem_cons_succ, List.setIfInBounds_toArray, List.set_cons_zero, List.set_cons_succ])
      refine wpAnyT_done (by kernel_rfl) ?_ _
      go_wp2
      go_ret
      exact ⟨by simp, (HB0.out _ hWe).1⟩
    · skip
      have HFi2 : Hid (∀ W, Below w.heap.size w W → Calls Try.prog 11 #[mdV m ⟨AE, cE, AM, cM, AO, cO⟩, .string s] W fun e w' => e = .returned (.tuple #[.agg #[.string ⟨#[]⟩, .int .i64 0, .string ⟨#[]⟩, .int .i64 0, .int .i64 0, .int .i64 0, .int .i64 0, .int .u32 0, .int .i64 0], .bool false]) ∧ Below W.heap.size W w') := Lib.hid fun W hW => by
        have := HFi.out W hW
        rw [hf] at this
        exact this
      have HFr2 : Hid (∀ W, Below w.heap.size w W → Calls Try.prog 12 #[mdV m ⟨AE, cE, AM, cM, AO, cO⟩, .string s] W fun e w' => e = .returned (.int .i64 (-1)) ∧ Below W.heap.size W w') := Lib.hid fun W hW => by
        have := HFr.out W hW
        rw [hx] at this
        exact this
      clear hf hx HIx HFi HFr
      go_wp2_with fail
      refine (HFi2.out _ hb4.1).mono ?_
      rintro e w4 ⟨rfl, hb5⟩
      have HW4 : Hid (Below (w.heap.size + 2) wm w4) := Lib.hid (HW3.out.trans (hb5.mono hb4.2))
      have hb6 := HB0.out _ HW4.out
      clear s0 s1 s2 s3 s4 s5 hb5 hb4 HW3 f0 hk HFi2
      obtain ⟨⟨s0, s1, s2, s3, s4, s5⟩, -⟩ := HT.out _ HW4.out
      have hg0 : w.heap.size < w4.heap.size := by omega
      have HW5 : Hid (Below (w.heap.size + 2) wm (w4.alloc (.cells #[.string ⟨#[]⟩, .int .i64 0, .string ⟨#[]⟩, .int .i64 0, .int .i64 0, .int .i64 0, .int .i64 0, .int .u32 0, .int .i64 0] 37))) := Lib.hid (HW4.out.alloc hb6.2 _)
      have HBx := Lib.hid (Blk.new w4 37 #[.string ⟨#[]⟩, .int .i64 0, .string ⟨#[]⟩, .int .i64 0, .int .i64 0, .int .i64 0, .int .i64 0, .int .u32 0, .int .i64 0])
      have hz5 : w4.heap.size < (w4.alloc (.cells #[.string ⟨#[]⟩, .int .i64 0, .string ⟨#[]⟩, .int .i64 0, .int .i64 0, .int .i64 0, .int .i64 0, .int .u32 0, .int .i64 0] 37)).heap.size := by simp
      have HFr3 := Lib.hid (HFr2.out _ (HB0.out _ HW5.out).1)
      have h5 := (HB0.out _ HW5.out).2
      go_wp2_with fail
      refine HFr3.out.mono ?_
      rintro e w6 ⟨rfl, hb7⟩
      have HW6 : Hid (Below (w.heap.size + 2) wm w6) := Lib.hid (HW5.out.trans (hb7.mono h5))
      have HBy := Lib.hid (HBx.out.below hb7 hz5)
      clear s0 s1 s2 s3 s4 s5 hb7 HW5 HBx HFr2 HFr3 hb6 HW4 h5 hz5
      have hb8 := HB0.out _ HW6.out
      obtain ⟨⟨s0, s1, s2, s3, s4, s5⟩, ⟨y0, y1, y2⟩⟩ := HT.out _ HW6.out
      obtain ⟨v0, v1, v2, v3, v4, v5, v6, v7, v8⟩ : w6.cell? ⟨w4.heap.size, 0, none⟩ = some (.string ⟨#[]⟩) ∧ w6.cell? ⟨w4.heap.size, 1, none⟩ = some (.int .i64 0) ∧ w6.cell? ⟨w4.heap.size, 2, none⟩ = some (.string ⟨#[]⟩) ∧ w6.cell? ⟨w4.heap.size, 3, none⟩ = some (.int .i64 0) ∧ w6.cell? ⟨w4.heap.size, 4, none⟩ = some (.int .i64 0) ∧ w6.cell? ⟨w4.heap.size, 5, none⟩ = some (.int .i64 0) ∧ w6.cell? ⟨w4.heap.size, 6, none⟩ = some (.int .i64 0) ∧ w6.cell? ⟨w4.heap.size, 7, none⟩ = some (.int .u32 0) ∧ w6.cell? ⟨w4.heap.size, 8, none⟩ = some (.int .i64 0) := ⟨HBy.out.cell 0, HBy.out.cell 1, HBy.out.cell 2, HBy.out.cell 3, HBy.out.cell 4, HBy.out.cell 5, HBy.out.cell 6, HBy.out.cell 7, HBy.out.cell 8⟩
      have hq : ∀ W, (binOp .neq 37 (.agg #[.string ⟨#[]⟩, .int .i64 0, .string ⟨#[]⟩, .int .i64 0, .int .i64 0, .int .i64 0, .int .i64 0, .int .u32 0, .int .i64 0]) (.agg #[.string ⟨#[]⟩, .int .i64 0, .string ⟨#[]⟩, .int .i64 0, .int .i64 0, .int .i64 0, .int .i64 0, .int .u32 0, .int .i64 0])).run Try.prog W = .ok (.bool false) W := fun W => by
        exact neq_en W ⟨⟨#[]⟩, 0, ⟨#[]⟩, 0, 0, 0, 0, 0, 0⟩ ⟨⟨#[]⟩, 0, ⟨#[]⟩, 0, 0, 0, 0, 0, 0⟩
      go_wp2_with fail
      go_quiet (fail)
      clear s0 s1 s2 s3 s4 s5 y0 y1 y2 v0 v1 v2 v3 v4 v5 v6 v7 v8
      go_wp2_with fail
      refine wp_region_T 99 (fun w' => (w'.cell? ⟨w.heap.size, 0, none⟩ = some (.int .i64 m.gen) ∧ w'.cell? ⟨w.heap.size, 1, none⟩ = some (.int .i64 m.cut) ∧ w'.cell? ⟨w.heap.size, 2, none⟩ = some (.int .i64 m.fence) ∧ w'.cell? ⟨w.heap.size, 3, none⟩ = some (.slice AE m.E.length cE) ∧ w'.cell? ⟨w.heap.size, 4, none⟩ = some (.slice AM m.M.length cM) ∧ w'.cell? ⟨w.heap.size, 5, none⟩ = some (.slice AO m.O.length cO)) ∧ w'.cell? ⟨(w.heap.size + 1), 0, none⟩ = some (.int .i64 y.agent) ∧ w'.cell? ⟨(w.heap.size + 1), 1, none⟩ = some (.int .i64 y.life) ∧ w'.cell? ⟨(w.heap.size + 1), 2, none⟩ = some (.int .i64 y.count)) (by kernel_rfl) (HT.out _ (below_drewN_ (below_drewN_ HW6.out _) 1)) (fun hHeld => ?_)
      refine wpAnyT_take (i := 0) (oi := _) (v := ?_) rfl (by kernel_rfl) (fun _ _ _ h => h) (Or.inl ⟨by kernel_rfl, ?_⟩) (by assumption) ?_; rotate_left; (focus (intro w hSw; (try dsimp only at hSw); go_simp; (try with_reducible rfl))); (try simp only [Act.put, List.getElem_toArray, List.getElem_cons_zero, List.setIfInBounds_toArray, List.set_cons_zero, List.set_cons_succ])
      refine wpAnyT_take (i := 1) (oi := _) (v := ?_) rfl (by kernel_rfl) (fun _ _ _ h => h) (Or.inl ⟨by kernel_rfl, ?_⟩) (by assumption) ?_; rotate_left; (focus (intro w hSw; (try dsimp only at hSw); go_simp; (try with_reducible rfl))); (try simp only [Act.put, List.getElem_toArray, List.getElem_cons_zero, List.getElem_cons_succ, List.setIfInBounds_toArray, List.set_cons_zero, List.set_cons_succ])
      refine wpAnyT_take (i := 3) (oi := _) (v := ?_) rfl (by kernel_rfl) (fun _ _ _ h => h) (Or.inl ⟨by kernel_rfl, ?_⟩) (by assumption) ?_; rotate_left; (focus (intro w hSw; (try dsimp only at hSw); go_simp; (try with_reducible rfl))); (try simp only [Act.put, List.getElem_toArray, List.getElem_cons_zero, List.getElem_cons_succ, List.setIfInBounds_toArray, List.set_cons_zero, List.set_cons_succ])
      refine wpAnyT_take (i := 4) (oi := _) (v := ?_) rfl (by kernel_rfl) (fun _ _ _ h => h) (Or.inl ⟨by kernel_rfl, ?_⟩) (by assumption) ?_; rotate_left; (focus (intro w hSw; (try dsimp only at hSw); go_simp; (try with_reducible rfl))); (try simp only [Act.put, List.getElem_toArray, List.getElem_cons_zero, List.getElem_cons_succ, List.setIfInBounds_toArray, List.set_cons_zero, List.set_cons_succ])
      refine wpAnyT_one (i := 2) (by kernel_rfl) rfl (fun K hK => ?_); go_simp
      refine (HMk.out _ (below_drewN_ (below_drewN_ hb8.1 _) 1)).mono ?_
      rintro e wa ⟨rfl, hba⟩
      have hWa : Below (w.heap.size + 2) wm wa := (below_drewN_ (below_drewN_ HW6.out _) 1).trans (hba.mono hb8.2)
      have hHa := HT.out _ hWa
      refine hK.out _ _ (fun _ => hHa) ?_
      clear hK K hHeld hba
      (try simp only [Act.put, List.getElem_toArray, List.getElem_cons_zero, List.getElem_cons_succ, List.setIfInBounds_toArray, List.set_cons_zero, List.set_cons_succ])
      refine wpAnyT_one (i := 5) (by kernel_rfl) rfl (fun K hK => ?_); go_simp
      refine (HSq.out _ (HB0.out _ hWa).1).mono ?_
      rintro e wb ⟨rfl, hbb⟩
      have hWb : Below (w.heap.size + 2) wm wb := hWa.trans (hbb.mono (HB0.out _ hWa).2)
      have hHb := HT.out _ hWb
      refine hK.out _ _ (fun _ => hHb) ?_
      clear hK K hHa hbb
      (try simp only [Act.put, List.getElem_toArray, List.getElem_cons_zero, List.getElem_cons_succ, List.setIfInBounds_toArray, List.set_cons_zero, List.set_cons_succ])
      refine wpAnyT_take (i := 6) (oi := _) (v := ?_) rfl (by kernel_rfl) (fun _ _ _ h => h) (Or.inl ⟨by kernel_rfl, ?_⟩) (by assumption) ?_; rotate_left; (focus (intro w hSw; (try dsimp only at hSw); go_simp; (try with_reducible rfl))); (try simp only [Act.put, List.getElem_toArray, List.getElem_cons_zero, List.getElem_cons_succ, List.setIfInBounds_toArray, List.set_cons_zero, List.set_cons_succ])
      refine wpAnyT_take (i := 7) (oi := _) (v := ?_) rfl (by kernel_rfl) (fun _ _ _ h => h) (Or.inl ⟨by kernel_rfl, ?_⟩) (by assumption) ?_; rotate_left; (focus (intro w hSw; (try dsimp only at hSw); go_simp; (try with_reducible rfl))); (try simp only [Act.put, List.getElem_toArray, List.getElem_cons_zero, List.getElem_cons_succ, List.setIfInBounds_toArray, List.set_cons_zero, List.set_cons_succ])
      refine wpAnyT_take (i := 8) (oi := _) (v := ?_) rfl (by kernel_rfl) (fun _ _ _ h => h) (Or.inl ⟨by kernel_rfl, ?_⟩) (by assumption) ?_; rotate_left; (focus (intro w hSw; (try dsimp only at hSw); go_simp; (try with_reducible rfl))); (try simp only [Act.put, List.getElem_toArray, List.getElem_cons_zero, List.getElem_cons_succ, List.setIfInBounds_toArray, List.set_cons_zero, List.set_cons_succ])
      refine wpAnyT_take (i := 9) (oi := _) (v := ?_) rfl (by kernel_rfl) (fun _ _ _ h => h) (Or.inl ⟨by kernel_rfl, ?_⟩) (by assumption) ?_; rotate_left; (focus (intro w hSw; (try dsimp only at hSw); go_simp; (try with_reducible rfl))); (try simp only [Act.put, List.getElem_toArray, List.getElem_cons_zero, List.getElem_cons_succ, List.setIfInBounds_toArray, List.set_cons_zero, List.set_cons_succ])
      refine wpAnyT_take (i := 11) (oi := _) (v := ?_) rfl (by kernel_rfl) (fun _ _ _ h => h) (Or.inl ⟨by kernel_rfl, ?_⟩) (by assumption) ?_; rotate_left; (focus (intro w hSw; (try dsimp only at hSw); go_simp; (try with_reducible rfl))); (try simp only [Act.put, List.getElem_toArray, List.getElem_cons_zero, List.getElem_cons_succ, List.setIfInBounds_toArray, List.set_cons_zero, List.set_cons_succ])
      refine wpAnyT_take (i := 12) (oi := _) (v := ?_) rfl (by kernel_rfl) (fun _ _ _ h => h) (Or.inl ⟨by kernel_rfl, ?_⟩) (by assumption) ?_; rotate_left; (focus (intro w hSw; (try dsimp only at hSw); go_simp; (try with_reducible rfl))); (try simp only [Act.put, List.getElem_toArray, List.getElem_cons_zero, List.getElem_cons_succ, List.setIfInBounds_toArray, List.set_cons_zero, List.set_cons_succ])
      refine wpAnyT_one (i := 10) (by kernel_rfl) rfl (fun K hK => ?_); go_simp
      refine (HDi.out _ (HB0.out _ hWb).1).mono ?_
      rintro e wc ⟨rfl, hbc⟩
      have hWc : Below (w.heap.size + 2) wm wc := hWb.trans (hbc.mono (HB0.out _ hWb).2)
      have hHc := HT.out _ hWc
      refine hK.out _ _ (fun _ => hHc) ?_
      clear hK K hHb hbc hWa
      (try simp only [Act.put, List.getElem_toArray, List.getElem_cons_zero, List.getElem_cons_succ, List.setIfInBounds_toArray, List.set_cons_zero, List.set_cons_succ])
      refine wpAnyT_one (i := 13) (by kernel_rfl) rfl (fun K hK => ?_); go_simp
      refine (HDr.out _ (HB0.out _ hWc).1).mono ?_
      rintro e we ⟨rfl, hbe⟩
      have hWe : Below (w.heap.size + 2) wm we := hWc.trans (hbe.mono (HB0.out _ hWc).2)
      have hHe := HT.out _ hWe
      refine hK.out _ _ (fun _ => hHe) ?_
      clear hK K hHc hbe hWb
      (try simp only [Act.put, List.getElem_toArray, List.getElem_cons_zero, List.getElem_cons_succ, List.setIfInBounds_toArray, List.set_cons_zero, List.set_cons_succ])
      refine wpAnyT_take (i := 14) (oi := _) (v := ?_) rfl (by kernel_rfl) (fun _ _ _ h => h) (Or.inl ⟨by kernel_rfl, ?_⟩) (by assumption) ?_; rotate_left; (focus (intro w hSw; (try dsimp only at hSw); go_simp; (try with_reducible rfl))); (try simp only [Act.put, List.getElem_toArray, List.getElem_cons_zero, List.getElem_cons_succ, List.setIfInBounds_toArray, List.set_cons_zero, List.set_cons_succ])
      refine wpAnyT_take (i := 15) (oi := _) (v := ?_) rfl (by kernel_rfl) (fun _ _ _ h => h) (Or.inl ⟨by kernel_rfl, ?_⟩) (by assumption) ?_; rotate_left; (focus (intro w hSw; (try dsimp only at hSw); go_simp; (try with_reducible rfl))); (try simp only [Act.put, List.getElem_toArray, List.getElem_cons_zero, List.getElem_cons_succ, List.setIfInBounds_toArray, List.set_cons_zero, List.set_cons_succ])
      refine wpAnyT_take (i := 16) (oi := _) (v := ?_) rfl (by kernel_rfl) (fun _ _ _ h => h) (Or.inl ⟨by kernel_rfl, ?_⟩) (by assumption) ?_; rotate_left; (focus (intro w hSw; (try dsimp only at hSw); go_simp; (try with_reducible rfl))); (try simp only [Act.put, List.getElem_toArray, List.getElem_cons_zero, List.getElem_cons_succ, List.setIfInBounds_toArray, List.set_cons_zero, List.set_cons_succ])
      refine wpAnyT_done (by kernel_rfl) ?_ _
      go_wp2
      go_ret
      exact ⟨by simp, (HB0.out _ hWe).1⟩
  · have f0 : decide ((100 : Int) < (s.size : Int)) = true := dct (by omega)
    clear hk
    go_wp2_with fail
    refine HX2.out.mono ?_
    rintro e w3 ⟨rfl, hb3⟩
    have hb4 := hb2.1.trans (hb3.mono hb2.1.size)
    go_wp2_with fail
    refine (HLv.out _ hb4).mono ?_
    rintro e w9 ⟨rfl, hb9⟩
    go_wp2
    go_ret
    exact ⟨rfl, hb4.trans (hb9.mono hb4.size)⟩
theorem walk {H : Type} {enc : TypeId × Value → H} {W : World} {base : Nat} {v0 v1 v2 v3 : Value} {d0 d1 d2 d3 : DataW H} {p0 p1 p2 p3 : List MemPlace} (hsh : W.ShapedOpen Try.prog) (g0 : Arg enc Try.prog W base 26 v0 d0 p0) (g1 : Arg enc Try.prog W base 3 v1 d1 p1) (g2 : Arg enc Try.prog W base 9 v2 d2 p2) (g3 : Arg enc Try.prog W base 29 v3 d3 p3) :
    Calls Try.prog 4 #[v0, v1, v2, v3] W fun e w' => e = .returned (.bool true) ∧ Below W.heap.size W w' := by
  obtain ⟨m, p, rfl, hm⟩ := arg_man g0
  obtain ⟨k, rfl, _, _⟩ := g1.int Try.underlying3
  obtain ⟨s, rfl, _, _⟩ := g2.str Try.underlying9
  obtain ⟨y, rfl⟩ := arg_ow g3
  exact body W hm (Nat.le_refl _) (var0 hsh) k s y
end Go.Proofs.Ytjbmlhipjceeeaa.lawManifestFinds
