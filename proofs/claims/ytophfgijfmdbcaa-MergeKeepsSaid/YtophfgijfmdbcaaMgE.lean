/- Lists in order, as one: the walk (chapter 16). -/
import Derived.Test.YtophfgijfmdbcaaProg
import Derived.Test.YtophfgijfmdbcaaMgD
namespace Go.Proofs.Ytophfgijfmdbcaa.Mg
open Go.RowKit Go.Proofs.Ytophfgijfmdbcaa Go.Proofs.Ytophfgijfmdbcaa.So Go.Proofs.Ytophfgijfmdbcaa.Hp Go.Proofs.Ytophfgijfmdbcaa.Hr

/-- What Pop promises while lists are merged. -/
theorem pop_heaped {w wr : World} {B : Nat} {A : Option Addr} {c : Nat} {d : List Hd} {o all : List Rw} (h1 : HI wr (w.heap.size + 1) (w.heap.size + 1) (FVc w.heap.size) A c d) (h2 : Heap ltH d) (hM : Mrg all o d) (hO : ∀ h ∈ d, HdOk w B h) (hK : KC w.heap.size wr) (hn : all.length ≤ 1099511627776) (hp : 0 < d.length) (hs : w.heap.size + 2 ≤ wr.heap.size)
    {v : Value} {n : Nat} {xs : List Value} (hv : wr.ownsRow (w.heap.size + 2) 58 9 v n xs) :
    Calls Try.prog 52 #[.pointer (some ⟨w.heap.size + 1, 0, none⟩)] wr fun e w' => ∃ x0 : Hd, e = .returned (.tuple #[.agg #[.int .i64 x0.x.kind, .int .i64 x0.x.time, .slice x0.x.A x0.x.labs.length x0.x.cp, .string x0.x.text, .int .i64 x0.x.value, .bool x0.x.null, .int .i64 x0.x.maker, .int .i64 x0.x.seq, .int .i64 x0.x.place, .slice x0.A x0.rest.length x0.cp], .bool true]) ∧ HdOk w B x0 ∧ o.length < all.length ∧
      (∃ A2 c2 d2, HI w' (w.heap.size + 1) (w.heap.size + 1) (FVc w.heap.size) A2 c2 d2 ∧ Heap ltH d2 ∧ KC w.heap.size w' ∧ (∀ h ∈ d2, HdOk w B h) ∧ Mrg all o (x0 :: d2) ∧ ∀ b ∈ d2, ltH b x0 = false) ∧ Below (w.heap.size + 1) wr w' ∧ w'.ownsRow (w.heap.size + 2) 58 9 v n xs := by
  have hb := hM.bound
  refine (pop_calls (KC w.heap.size) (w.heap.size + 1) (w.heap.size + 1) _ c _ ltH swoH (asks_of (Nat.lt_succ_self _)) wr A d hK h1 h2 (by omega) hp).mono ?_
  rintro e w2 ⟨rfl, ⟨A2, c2, d2, k1, k2, k3, -⟩, hB, hF⟩
  have hpm : d.Perm (gt d 0 :: d2) := (cutLast_perm hp).trans (k3.symm.cons _)
  refine ⟨gt d 0, rfl, hO _ (hpm.mem_iff.2 List.mem_cons_self), by omega, ⟨A2, c2, d2, k1, k2, hK.keep hB, fun h hh => hO h (hpm.mem_iff.2 (List.mem_cons_of_mem _ hh)), hM.of_perm hpm, fun b hb => ?_⟩, hB, own_fr h1 hv hF⟩
  obtain ⟨j, hj, rfl⟩ := List.getElem_of_mem (hpm.mem_iff.2 (List.mem_cons_of_mem _ hb))
  rw [gt_eq hj]
  exact root_least swoH h2 j j (Nat.le_refl _) hj
theorem own_lt {w : World} {B gh c : Nat} {fv : Value} {A : Option Addr} {d : List Hd} (h : HI w B gh fv A c d) {k : Nat} (hk : ownB A = some k) : k < w.heap.size := by
  rcases h.own.2 with ⟨e2, _⟩ | ⟨g', cap', cur', e2, _, hg', _⟩
  · injection e2 with e2
    rw [e2] at hk; cases hk
  · injection e2 with e2
    rw [e2] at hk
    have hk : g' = k := by injection hk
    rw [← hk]
    exact Blk.lt hg'
theorem mk_all {A : Option Addr} {cp : Nat} {l : List Rw} (hp : 0 < l.length) : allH [mkHd A cp l] = l := by
  rw [allH_cons]
  show Sr.gt l 0 :: (l.drop 1 ++ allH []) = l
  rw [show allH [] = [] from rfl, List.append_nil]
  exact mk_list hp

set_option maxRecDepth 100000 in
set_option maxHeartbeats 6400000 in
theorem merged_calls (w : World) {B c : Nat} {A : Option Addr} {L : List Lst} (h : Lists w B A L) (hB : B ≤ w.heap.size) (hn : (lAll L).length ≤ 4398046) (hL : L.length ≤ 4398046) (hs : ∀ x ∈ L, Srt ltR x.l) :
    Calls Try.prog 38 #[.func (.func 39) #[] #[], .slice A L.length c] w (RetMg w L) := by
  have H1 := Lib.hid h
  have HS := Lib.hid hs
  have HN := Lib.hid hn
  have HNW := Lib.hid fun W => new_calls W w.heap.size
  unfold FVc at HNW
  clear h hs hn
  go_enter Try.func38, Try.ntmps38
  go_wp2_with (go_at_call 49; refine (HNW.out _).mono ?_; rintro e w1 ⟨rfl, rfl⟩)
  have hb2 : Below w.heap.size w ((w.alloc (.cells #[.func (.func 39) #[] #[]] 76)).alloc (.cells #[.slice none 0 0, .func (.func 50) #[] #[.pointer (some ⟨w.heap.size, 0, none⟩)]] 100)) := ((Below.refl _ _).alloc (Nat.le_refl _) _).alloc (by simp) _
  have hs2 : ((w.alloc (.cells #[.func (.func 39) #[] #[]] 76)).alloc (.cells #[.slice none 0 0, .func (.func 50) #[] #[.pointer (some ⟨w.heap.size, 0, none⟩)]] 100)).heap.size = w.heap.size + 2 := by simp
  have hH2 : Heaped w ((w.alloc (.cells #[.func (.func 39) #[] #[]] 76)).alloc (.cells #[.slice none 0 0, .func (.func 50) #[] #[.pointer (some ⟨w.heap.size, 0, none⟩)]] 100)) B (lAll (L.take 0)) [] := by
    refine ⟨none, 0, [], ?_, heap_nil, ⟨by simp [allH, lAll], Srt.nil, by simp, by simp⟩, by simp, by simp; omega, ?_⟩
    · have := new_at (w.alloc (.cells #[.func (.func 39) #[] #[]] 76)) w.heap.size
      rw [World.size_alloc] at this
      exact this
    · exact ((Below.refl _ _).alloc (Nat.le_refl _) _).cell (p := ⟨w.heap.size, 0, none⟩) (by simp) |>.trans ((Blk.new w _ _).cell 0)
  have HH2 := Lib.hid hH2
  clear hH2
  generalize (w.alloc (.cells #[.func (.func 39) #[] #[]] 76)).alloc (.cells #[.slice none 0 0, .func (.func 50) #[] #[.pointer (some ⟨w.heap.size, 0, none⟩)]] 100) = w2 at *
  go_loopw [15] (fun i wr => ∃ k : Nat, k ≤ L.length ∧ i = .int .i64 (k : Int) ∧ Hid (Heaped w wr B (lAll (L.take k)) []) ∧ Below w.heap.size w wr ∧ w.heap.size + 2 ≤ wr.heap.size) (fun i _ => L.length - (intOf i).toNat)
  case atStart => exact ⟨0, Nat.zero_le _, rfl, HH2, hb2, by omega⟩
  case round =>
    obtain ⟨k, hk, rfl, HH, hbel, hsz2⟩ := hrel
    by_cases hlt : k < L.length
    · have hsz := hbel.size
      have r1 := H1.out.below (hbel.mono hB)
      obtain ⟨bL, oL, eL, hbL, -⟩ := r1.at_ (by omega)
      have yL := r1.cell_ eL hlt
      have i0 : (0 : Int) ≤ (k : Int) := by omega
      have i9 : (k : Int) < (L.length : Int) := by omega
      have HK1 := Lib.hid (lAll_take hlt)
      have kx := H1.out.each _ (lt_mem hlt)
      have HSX := Lib.hid (HS.out _ (lt_mem hlt))
      have HLN : Hid ((lAll (L.take k) ++ (lt_ L k).l).length ≤ 4398046) := Lib.hid (by rw [← lAll_take hlt]; exact Nat.le_trans (lAll_len_le L (k + 1)) HN.out)
      have hle := Nat.le_trans (lAll_mem (lt_mem hlt)) HN.out
      clear r1
      subst eL
      generalize lt_ L k = x at *
      obtain ⟨l, Al, cl⟩ := x
      have kr : Reads w B 9 Al l.length (Sr.flat Rw.c l) := kx.rows.reads
      have kc : l.length ≤ cl := kx.cap
      clear kx
      simp only at yL HSX HK1 hle
      obtain ⟨n, hnl⟩ : ∃ n, n = l.length := ⟨_, rfl⟩
      rw [← hnl] at yL
      by_cases h0 : n = 0
      · have hl0 : l = [] := List.eq_nil_of_length_eq_zero (by omega)
        have HX : Hid (Heaped w wr B (lAll (L.take (k + 1))) []) := Lib.hid (by
          rw [HK1.out, hl0, List.append_nil]; exact HH.out)
        clear kr kc hnl hl0 hle
        subst h0
        go_wp2
        go_roundw
        case rel => exact ⟨k + 1, by omega, by go_num, HX, hbel, hsz2⟩
        case measure => simp [intOf]; omega
      · obtain ⟨Ah, ch, d, q1, q2, q3, q4, q5⟩ := HH.out
        have hML : (mkHd Al cl l).x :: (mkHd Al cl l).rest = l := mk_list (by omega)
        have hOK : HdOk w B (mkHd Al cl l) := mk_ok kr kc (by omega)
        have HP := Lib.hid (push_heaped (B := B) (o := []) (mkHd Al cl l) q1 q2 (q3.add hML HSX.out) (fun y hy => (List.mem_cons.1 hy).elim (fun e => e ▸ hOK) (q4 y)) q5 (Nat.le_trans HLN.out (by decide)))
        obtain ⟨g1, o1, e1, hg1, -⟩ := reads_nine kr (by omega)
        have Hkeep : Hid (∀ W, Below w.heap.size w W → (W.cell? ⟨g1, o1, none⟩ = some (.int .i64 (Sr.gt l 0).kind) ∧ W.cell? ⟨g1, o1 + 1, none⟩ = some (.int .i64 (Sr.gt l 0).time) ∧ W.cell? ⟨g1, o1 + 2, none⟩ = some (.slice (Sr.gt l 0).A (Sr.gt l 0).labs.length (Sr.gt l 0).cp) ∧ W.cell? ⟨g1, o1 + 3, none⟩ = some (.string (Sr.gt l 0).text) ∧ W.cell? ⟨g1, o1 + 4, none⟩ = some (.int .i64 (Sr.gt l 0).value) ∧ W.cell? ⟨g1, o1 + 5, none⟩ = some (.bool (Sr.gt l 0).null) ∧ W.cell? ⟨g1, o1 + 6, none⟩ = some (.int .i64 (Sr.gt l 0).maker) ∧ W.cell? ⟨g1, o1 + 7, none⟩ = some (.int .i64 (Sr.gt l 0).seq) ∧ W.cell? ⟨g1, o1 + 8, none⟩ = some (.int .i64 (Sr.gt l 0).place))) := Lib.hid fun W hW => by
          have := reads_nine_at (kr.below (hW.mono hB)) e1 (i := 0) (by omega)
          simpa only [Nat.zero_mul, Nat.add_zero] using this
        have hrun := fun W => sliceR_at W Al n cl 1 (by omega) (by omega)
        have hrl : (mkHd Al cl l).rest.length = n - 1 := by show (l.drop 1).length = _; rw [List.length_drop, hnl]
        unfold vH at HP
        rw [hrl] at HP
        simp only [mkHd] at HP
        have hrun : ∀ W, (Instr.slice 47 (.slice Al n cl) (some (.int .i64 1)) none none).run Try.prog W = .ok (.slice (cutR Al cl 1 9) (n - 1) (cl - 1)) W := hrun
        have n0 : (0 : Int) < (n : Int) := by omega
        have HF : Hid (∀ w', Heaped w w' B (lAll (L.take k) ++ l) [] → Below (w.heap.size + 1) wr w' → Hid (Heaped w w' B (lAll (L.take (k + 1))) []) ∧ Below w.heap.size w w' ∧ w.heap.size + 2 ≤ w'.heap.size) := Lib.hid fun w' h1 h2 => ⟨Lib.hid (by rw [HK1.out]; exact h1), hbel.trans (h2.mono (by omega)), Nat.le_trans hsz2 h2.size⟩
        have Hk2 : Hid (∀ W, Below (w.heap.size + 1) wr W → (W.cell? ⟨g1, o1, none⟩ = some (.int .i64 (Sr.gt l 0).kind) ∧ W.cell? ⟨g1, o1 + 1, none⟩ = some (.int .i64 (Sr.gt l 0).time) ∧ W.cell? ⟨g1, o1 + 2, none⟩ = some (.slice (Sr.gt l 0).A (Sr.gt l 0).labs.length (Sr.gt l 0).cp) ∧ W.cell? ⟨g1, o1 + 3, none⟩ = some (.string (Sr.gt l 0).text) ∧ W.cell? ⟨g1, o1 + 4, none⟩ = some (.int .i64 (Sr.gt l 0).value) ∧ W.cell? ⟨g1, o1 + 5, none⟩ = some (.bool (Sr.gt l 0).null) ∧ W.cell? ⟨g1, o1 + 6, none⟩ = some (.int .i64 (Sr.gt l 0).maker) ∧ W.cell? ⟨g1, o1 + 7, none⟩ = some (.int .i64 (Sr.gt l 0).seq) ∧ W.cell? ⟨g1, o1 + 8, none⟩ = some (.int .i64 (Sr.gt l 0).place))) := Lib.hid fun W hW => Hkeep.out _ (hbel.trans (hW.mono (by omega)))
        subst e1
        generalize cutR (some ⟨g1, o1, none⟩) cl 1 9 = AC at *
        generalize Sr.gt l 0 = y at *
        clear q1 q2 q3 q4 q5 hML hOK hrl kr kc hle hnl Hkeep
        obtain ⟨p0, p1, p2, p3, p4, p5, p6, p7, p8⟩ := Hk2.out wr (Below.refl _ _)
        go_wp2_with fail
        go_region_held3 (fun w' => (w'.cell? ⟨g1, o1, none⟩ = some (.int .i64 y.kind) ∧ w'.cell? ⟨g1, o1 + 1, none⟩ = some (.int .i64 y.time) ∧ w'.cell? ⟨g1, o1 + 2, none⟩ = some (.slice y.A y.labs.length y.cp) ∧ w'.cell? ⟨g1, o1 + 3, none⟩ = some (.string y.text) ∧ w'.cell? ⟨g1, o1 + 4, none⟩ = some (.int .i64 y.value) ∧ w'.cell? ⟨g1, o1 + 5, none⟩ = some (.bool y.null) ∧ w'.cell? ⟨g1, o1 + 6, none⟩ = some (.int .i64 y.maker) ∧ w'.cell? ⟨g1, o1 + 7, none⟩ = some (.int .i64 y.seq) ∧ w'.cell? ⟨g1, o1 + 8, none⟩ = some (.int .i64 y.place))) (exact Hk2.out _ (by first | assumption | exact below_drewN_ (Below.refl _ _) 1)) ((go_at_call 51; refine (HP.out _ (below_drewN_ (Below.refl _ _) 1)).mono ?_; rintro e w3 ⟨rfl, hH3, hb3, -⟩))
        obtain ⟨z1, z2, z3⟩ := HF.out _ hH3 hb3
        go_wp2
        go_roundw
        case rel => exact ⟨k + 1, by omega, by go_num, z1, z2, z3⟩
        case measure => simp [intOf]; omega
    · obtain rfl : k = L.length := by omega
      have HH : Hid (Heaped w wr B (lAll L) []) := Lib.hid (by have := HH.out; rw [List.take_length] at this; exact this)
      obtain ⟨all, hal⟩ : ∃ all, all = lAll L := ⟨_, rfl⟩
      have HAL := Lib.hid hal
      rw [← hal] at HH HN
      clear hal
      clear H1 HS hlt hk
      obtain ⟨w3, rfl⟩ : ∃ w3 : World, w3 = wr := ⟨_, rfl⟩
      go_wp2
      go_loopw [8] (fun v wr => ∃ (o : List Rw) (A' : Option Addr) (c' : Nat), o.length ≤ all.length ∧ v = .slice A' o.length c' ∧ Hid (wr.ownsRow (w.heap.size + 2) 58 9 (.slice A' o.length c') o.length (Sr.flat Rw.c o)) ∧ Hid (Heaped w wr B all o) ∧ Below w.heap.size w wr ∧ w.heap.size + 2 ≤ wr.heap.size) (fun v _ => all.length - (match v with | .slice _ n _ => n | _ => 0))
      case atStart => exact ⟨[], none, 0, Nat.zero_le _, rfl, Lib.hid (World.ownsRow_nil _ _ _ _), HH, hbel, hsz2⟩
      case round =>
        obtain ⟨o, A', c', hol, rfl, HO, HH, hbel, hsz2⟩ := hrel
        have hsz := hbel.size
        obtain ⟨Ah, ch, d, q1, q2, q3, q4, q5⟩ := HH.out
        rcases d with _ | ⟨d0, dr⟩
        · have HP := Lib.hid (pop_empty wr q1)
          have HD := Lib.hid q3.done
          clear q1 q2 q3 q4 q5
          unfold vH at HP
          go_wp2_with (go_at_call 52; refine HP.out.mono ?_; rintro e w4 ⟨rfl, hb4⟩)
          go_ret
          exact ⟨A', c', o, rfl, by rw [← HAL.out]; exact HD.out.1, HD.out.2, own_base (own_below HO.out (hb4.alloc hb4.size _)) (by omega), hbel.trans ((hb4.alloc hb4.size _).mono hsz)⟩
        · have HP := Lib.hid (pop_heaped (o := o) q1 q2 q3 q4 q5 (Nat.le_trans HN.out (by decide)) (by simp) hsz2 HO.out)
          clear q1 q2 q3 q4 q5 HO HH
          go_wp2_with fail
          refine HP.out.mono ?_
          rintro e w4 ⟨⟨x, rest, A0, cp0⟩, rfl, hok, hlo, HQ, hb4, hO4⟩
          have kr : Reads w B 9 A0 rest.length (Sr.flat Rw.c rest) := hok.reads
          have kc : rest.length ≤ cp0 := hok.cap
          have hs4 := hb4.size
          have HQ := Lib.hid HQ
          simp only
          have hs5 : (w4.alloc (.cells #[.int .i64 x.kind, .int .i64 x.time, .slice x.A x.labs.length x.cp, .string x.text, .int .i64 x.value, .bool x.null, .int .i64 x.maker, .int .i64 x.seq, .int .i64 x.place, .slice A0 rest.length cp0] 86)).heap.size = w4.heap.size + 1 := by simp
          have hb5 : Below w4.heap.size w4 ((w4.alloc (.cells #[.int .i64 x.kind, .int .i64 x.time, .slice x.A x.labs.length x.cp, .string x.text, .int .i64 x.value, .bool x.null, .int .i64 x.maker, .int .i64 x.seq, .int .i64 x.place, .slice A0 rest.length cp0] 86)).alloc (.cells #[.int .i64 x.kind, .int .i64 x.time, .slice x.A x.labs.length x.cp, .string x.text, .int .i64 x.value, .bool x.null, .int .i64 x.maker, .int .i64 x.seq, .int .i64 x.place] 58)) := ((Below.refl _ _).alloc (Nat.le_refl _) _).alloc (by simp) _
          have hcs : ((w4.alloc (.cells #[.int .i64 x.kind, .int .i64 x.time, .slice x.A x.labs.length x.cp, .string x.text, .int .i64 x.value, .bool x.null, .int .i64 x.maker, .int .i64 x.seq, .int .i64 x.place, .slice A0 rest.length cp0] 86)).alloc (.cells #[.int .i64 x.kind, .int .i64 x.time, .slice x.A x.labs.length x.cp, .string x.text, .int .i64 x.value, .bool x.null, .int .i64 x.maker, .int .i64 x.seq, .int .i64 x.place] 58)).ownsRow (w.heap.size + 2) 58 9 (.slice A' o.length c') o.length (Sr.flat Rw.c o) := own_below hO4 hb5
          have hrd : Reads ((w4.alloc (.cells #[.int .i64 x.kind, .int .i64 x.time, .slice x.A x.labs.length x.cp, .string x.text, .int .i64 x.value, .bool x.null, .int .i64 x.maker, .int .i64 x.seq, .int .i64 x.place, .slice A0 rest.length cp0] 86)).alloc (.cells #[.int .i64 x.kind, .int .i64 x.time, .slice x.A x.labs.length x.cp, .string x.text, .int .i64 x.value, .bool x.null, .int .i64 x.maker, .int .i64 x.seq, .int .i64 x.place] 58)) (w4.heap.size + 1 + 1) 9 (some ⟨w4.heap.size + 1, 0, none⟩) 1 (Sr.nine Rw.c x) := by
            have := Reads.made (n := 1) (size := 9) (w4.alloc (.cells #[.int .i64 x.kind, .int .i64 x.time, .slice x.A x.labs.length x.cp, .string x.text, .int .i64 x.value, .bool x.null, .int .i64 x.maker, .int .i64 x.seq, .int .i64 x.place, .slice A0 rest.length cp0] 86)) #[.int .i64 x.kind, .int .i64 x.time, .slice x.A x.labs.length x.cp, .string x.text, .int .i64 x.value, .bool x.null, .int .i64 x.maker, .int .i64 x.seq, .int .i64 x.place] 58 rfl
            rw [hs5] at this
            exact this
          have hbx : Blk ((w4.alloc (.cells #[.int .i64 x.kind, .int .i64 x.time, .slice x.A x.labs.length x.cp, .string x.text, .int .i64 x.value, .bool x.null, .int .i64 x.maker, .int .i64 x.seq, .int .i64 x.place, .slice A0 rest.length cp0] 86)).alloc (.cells #[.int .i64 x.kind, .int .i64 x.time, .slice x.A x.labs.length x.cp, .string x.text, .int .i64 x.value, .bool x.null, .int .i64 x.maker, .int .i64 x.seq, .int .i64 x.place] 58)) w4.heap.size 86 #[.int .i64 x.kind, .int .i64 x.time, .slice x.A x.labs.length x.cp, .string x.text, .int .i64 x.value, .bool x.null, .int .i64 x.maker, .int .i64 x.seq, .int .i64 x.place, .slice A0 rest.length cp0] := (Blk.new w4 _ _).below ((Below.refl _ _).alloc (Nat.le_refl _) _) (by simp)
          have HCS := Lib.hid hcs
          have HRD := Lib.hid hrd
          have HBX := Lib.hid hbx
          have HB5 := Lib.hid hb5
          have HNA : o.length ≤ 4398046 := Nat.le_trans hol HN.out
          clear hcs hrd hbx hb5 hs5 hO4 hok
          go_wp2_with (at_builtin; go_must (refine wpList_append_sl _ rfl (.tmp 39) (.tmp 42) _ rfl (w.heap.size + 2) 58 _ 9 96 Try.underlying47 Try.infoRow rfl (by omega) _ _ _ rfl HCS.out (w4.heap.size + 1 + 1) _ 1 1 _ rfl HRD.out (nine_one x) (by unfold maxLen; omega) (by omega) (by simp; omega) ?_))
          intro A3 c3 w6 hc1 hc2 hrd3 hbel3 hown3 hgr _
          have hs6 := hgr.size
          have hs5 : ((w4.alloc (.cells #[.int .i64 x.kind, .int .i64 x.time, .slice x.A x.labs.length x.cp, .string x.text, .int .i64 x.value, .bool x.null, .int .i64 x.maker, .int .i64 x.seq, .int .i64 x.place, .slice A0 rest.length cp0] 86)).alloc (.cells #[.int .i64 x.kind, .int .i64 x.time, .slice x.A x.labs.length x.cp, .string x.text, .int .i64 x.value, .bool x.null, .int .i64 x.maker, .int .i64 x.seq, .int .i64 x.place] 58)).heap.size = w4.heap.size + 2 := by simp
          rw [hs5] at hs6
          have HBX6 : Hid (Blk w6 w4.heap.size 86 #[.int .i64 x.kind, .int .i64 x.time, .slice x.A x.labs.length x.cp, .string x.text, .int .i64 x.value, .bool x.null, .int .i64 x.maker, .int .i64 x.seq, .int .i64 x.place, .slice A0 rest.length cp0]) := Lib.hid (HBX.out.grown hgr (by
            rcases HCS.out.2 with ⟨h1, _⟩ | ⟨g, cap, cur, h1, _, hgg, _⟩
            · rw [h1]; intro e; cases e
            · rw [h1]; intro e
              have e : w4.heap.size = g := by injection e
              exact Blk.ne_ HBX.out hgg (by decide) e))
          obtain ⟨A2, c2, d2, q1, q2, q3, q4, q5, q6⟩ := HQ.out
          have hAo := fun k (e : ownB A2 = some k) => own_lt q1 e
          have q1 : HI w6 (w.heap.size + 1) (w.heap.size + 1) (FVc w.heap.size) A2 c2 d2 := HI.grown (q1.below HB5.out) HCS.out hgr
          have hB6 : Below (w.heap.size + 1) wr w6 := (hb4.trans (HB5.out.mono (by omega))).trans (hbel3.mono (by omega))
          have q3 : KC w.heap.size w6 := q3.keep ((HB5.out.mono (by omega)).trans (hbel3.mono (by omega)))
          have HO6 : Hid (w6.ownsRow (w.heap.size + 2) 58 9 (.slice A3 (o.length + 1) c3) (o.length + 1) (Sr.flat Rw.c (o ++ [x]))) := Lib.hid (by
            rw [Sr.flat_app, show Sr.flat Rw.c [x] = Sr.nine Rw.c x from by simp [Sr.flat]]
            exact hown3)
          have HLO : Hid ((o ++ [x]).length = o.length + 1) := Lib.hid (by simp)
          have HB6 : Hid (Below w.heap.size w w6 ∧ w.heap.size + 2 ≤ w6.heap.size) := Lib.hid ⟨hbel.trans (hB6.mono (by omega)), by omega⟩
          have y9 : w6.cell? ⟨w4.heap.size, 9, none⟩ = some (.slice A0 rest.length cp0) := (HBX6.out.cell 9).trans rfl
          have hs46 : w4.heap.size < w6.heap.size := by omega
          clear hs5 hown3 hgr hbel3 hrd3 HCS HRD HBX HB5 hB6 hc1 hc2 HQ
          by_cases h0 : rest.length = 0
          · have hl0 : rest = [] := List.eq_nil_of_length_eq_zero h0
            have HX : Hid (Heaped w w6 B all (o ++ [x])) := Lib.hid ⟨A2, c2, d2, q1, q2, Mrg.pop q5 q6 [] (by simp only; rw [hl0]; rfl) (by simp), q4, q3⟩
            rw [h0] at y9
            clear q1 q2 q3 q4 q5 q6 kr kc
            go_wp2
            go_roundw
            case rel => exact ⟨o ++ [x], A3, c3, by rw [HLO.out]; exact hlo, by rw [HLO.out], Lib.hid (by rw [HLO.out]; exact HO6.out), HX, HB6.out.1, HB6.out.2⟩
            case measure => simp; omega
          · have hOK : HdOk w B (mkHd A0 cp0 rest) := mk_ok kr kc (by omega)
            have hM := Mrg.pop q5 q6 [mkHd A0 cp0 rest] (mk_all (by omega)) (fun b hb => by
              obtain rfl := List.mem_singleton.1 hb
              have := (List.pairwise_cons.1 (q5.each _ List.mem_cons_self)).2
              rw [show (mkHd A0 cp0 rest).x :: (mkHd A0 cp0 rest).rest = rest from mk_list (by omega)]
              exact this)
            have HP := Lib.hid (push_heaped (B := B) (o := o ++ [x]) (mkHd A0 cp0 rest) q1 q2 hM (fun y hy => (List.mem_cons.1 hy).elim (fun e => e ▸ hOK) (q4 y)) q3 (Nat.le_trans HN.out (by decide)))
            obtain ⟨g1, o1, e1, hg1, -⟩ := reads_nine kr (by omega)
            obtain ⟨n, hnl⟩ : ∃ n, n = rest.length := ⟨_, rfl⟩
            have hrun := fun W => sliceR_at W A0 n cp0 1 (by omega) (by omega)
            have hrl : (mkHd A0 cp0 rest).rest.length = n - 1 := by show (rest.drop 1).length = _; rw [List.length_drop, hnl]
            unfold vH at HP
            rw [hrl] at HP
            simp only [mkHd] at HP
            have hrun : ∀ W, (Instr.slice 47 (.slice A0 n cp0) (some (.int .i64 1)) none none).run Try.prog W = .ok (.slice (cutR A0 cp0 1 9) (n - 1) (cp0 - 1)) W := hrun
            have n0 : (0 : Int) < (n : Int) := by omega
            rw [← hnl] at y9 HBX6
            have Hk2 : Hid (∀ W, Below (w.heap.size + 1) w6 W → Fr (w.heap.size + 1) (ownB A2) w6 W → W.cell? ⟨w4.heap.size, 9, none⟩ = some (.slice A0 n cp0) ∧ (W.cell? ⟨g1, o1, none⟩ = some (.int .i64 (Sr.gt rest 0).kind) ∧ W.cell? ⟨g1, o1 + 1, none⟩ = some (.int .i64 (Sr.gt rest 0).time) ∧ W.cell? ⟨g1, o1 + 2, none⟩ = some (.slice (Sr.gt rest 0).A (Sr.gt rest 0).labs.length (Sr.gt rest 0).cp) ∧ W.cell? ⟨g1, o1 + 3, none⟩ = some (.string (Sr.gt rest 0).text) ∧ W.cell? ⟨g1, o1 + 4, none⟩ = some (.int .i64 (Sr.gt rest 0).value) ∧ W.cell? ⟨g1, o1 + 5, none⟩ = some (.bool (Sr.gt rest 0).null) ∧ W.cell? ⟨g1, o1 + 6, none⟩ = some (.int .i64 (Sr.gt rest 0).maker) ∧ W.cell? ⟨g1, o1 + 7, none⟩ = some (.int .i64 (Sr.gt rest 0).seq) ∧ W.cell? ⟨g1, o1 + 8, none⟩ = some (.int .i64 (Sr.gt rest 0).place))) := Lib.hid fun W hW hF => ⟨by
              have := hF.blk HBX6.out (by omega) (fun e => absurd (hAo _ e.symm) (Nat.lt_irrefl _))
              exact (this.cell 9).trans rfl, by
              have := reads_nine_at (kr.below ((HB6.out.1.trans (hW.mono (by omega))).mono hB)) e1 (i := 0) (by omega)
              simpa only [Nat.zero_mul, Nat.add_zero] using this⟩
            have HF : Hid (∀ w', Heaped w w' B all (o ++ [x]) → Below (w.heap.size + 1) w6 w' → Fr (w.heap.size + 1) (ownB A2) w6 w' → Hid (Heaped w w' B all (o ++ [x])) ∧ Hid (w'.ownsRow (w.heap.size + 2) 58 9 (.slice A3 (o.length + 1) c3) (o.length + 1) (Sr.flat Rw.c (o ++ [x]))) ∧ Below w.heap.size w w' ∧ w.heap.size + 2 ≤ w'.heap.size) := Lib.hid fun w' h1 h2 h3 => ⟨Lib.hid h1, Lib.hid (own_fr q1 HO6.out h3), HB6.out.1.trans (h2.mono (by omega)), Nat.le_trans HB6.out.2 h2.size⟩
            have HfE : Hid (∀ W, Below w6.heap.size w6 W → Fr (w.heap.size + 1) (ownB A2) w6 W) := Lib.hid fun W hW => (Fr.refl _ _ _).below hW
            subst e1
            generalize cutR (some ⟨g1, o1, none⟩) cp0 1 9 = AC at *
            generalize Sr.gt rest 0 = y at *
            obtain ⟨z9, p0, p1, p2, p3, p4, p5, p6, p7, p8⟩ := Hk2.out w6 (Below.refl _ _) (HfE.out _ (Below.refl _ _))
            clear q1 q2 q3 q4 q5 q6 kr kc hOK hM hrl hAo z9
            clear hnl h0
            go_wp2_with fail
            go_region_held3 (fun w' => w'.cell? ⟨w4.heap.size, 9, none⟩ = some (.slice (some ⟨g1, o1, none⟩) n cp0) ∧ (w'.cell? ⟨g1, o1, none⟩ = some (.int .i64 y.kind) ∧ w'.cell? ⟨g1, o1 + 1, none⟩ = some (.int .i64 y.time) ∧ w'.cell? ⟨g1, o1 + 2, none⟩ = some (.slice y.A y.labs.length y.cp) ∧ w'.cell? ⟨g1, o1 + 3, none⟩ = some (.string y.text) ∧ w'.cell? ⟨g1, o1 + 4, none⟩ = some (.int .i64 y.value) ∧ w'.cell? ⟨g1, o1 + 5, none⟩ = some (.bool y.null) ∧ w'.cell? ⟨g1, o1 + 6, none⟩ = some (.int .i64 y.maker) ∧ w'.cell? ⟨g1, o1 + 7, none⟩ = some (.int .i64 y.seq) ∧ w'.cell? ⟨g1, o1 + 8, none⟩ = some (.int .i64 y.place))) (first | exact Hk2.out _ (by assumption) (by assumption) | exact Hk2.out _ (below_drewN_ (Below.refl _ _) 1) (HfE.out _ (below_drewN_ (Below.refl _ _) 1))) ((go_at_call 51; refine (HP.out _ (below_drewN_ (Below.refl _ _) 1)).mono ?_; rintro e w7 ⟨rfl, hH7, hb7, hf7⟩))
            obtain ⟨t1, t2, t3, t4⟩ := HF.out _ hH7 hb7 hf7
            go_wp2
            go_roundw
            case rel => exact ⟨o ++ [x], A3, c3, by rw [HLO.out]; exact hlo, by rw [HLO.out], Lib.hid (by rw [HLO.out]; exact t2.out), t1, t3, t4⟩
            case measure => simp; omega
end Go.Proofs.Ytophfgijfmdbcaa.Mg
