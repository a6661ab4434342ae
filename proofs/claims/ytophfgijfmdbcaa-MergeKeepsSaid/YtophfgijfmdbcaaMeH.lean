/- Choose: the walk. -/
import Derived.Test.YtophfgijfmdbcaaProg
import Derived.Test.YtophfgijfmdbcaaMeG
namespace Go.Proofs.Ytophfgijfmdbcaa
open Go.RowKit Go.Proofs.Ytophfgijfmdbcaa.So

/-- A row of entries of the call's own (nil too). -/
abbrev OwnE (w : World) (base : Nat) (A : Option Addr) (c : Nat) (l : List Ent) : Prop := w.ownsRow base 29 9 (.slice A l.length c) l.length (flat Ent.c l)
theorem own_cases {w : World} {base : Nat} {A : Option Addr} {c : Nat} {l : List Ent} (h : OwnE w base A c l) : (A = none ∧ c = 0 ∧ l = []) ∨ ∃ g, A = some ⟨g, 0, none⟩ ∧ base ≤ g ∧ g < w.heap.size ∧ l.length ≤ c := by
  rcases h.2 with ⟨h1, h2⟩ | ⟨g, cap, cur, h1, hb, hg, hnc, _⟩
  · injection h1 with e1 e2 e3
    exact .inl ⟨e1, e3, List.eq_nil_of_length_eq_zero h2⟩
  · injection h1 with e1 _ e2
    subst e1 e2
    exact .inr ⟨g, rfl, hb, Blk.lt (t := 29) hg, hnc⟩
theorem deleteE_own (w : World) {base c b : Nat} {A : Option Addr} {l : List Ent} (small : Int) (h : OwnE w base A c l) (hb : w.cell? ⟨b, 0, none⟩ = some (.int .i64 small)) (hbb : b < base) (hbs : base ≤ w.heap.size) (hn : l.length ≤ 1099511627776) :
    Calls Try.prog 27 #[.slice A l.length c, .func (.func 29) #[] #[.pointer (some ⟨b, 0, none⟩)]] w fun e w' =>
      (∃ A' c', e = .returned (.slice A' (smalls small l).length c') ∧ OwnE w' base A' c' (smalls small l)) ∧ Below base w w' := by
  rcases own_cases h with ⟨rfl, rfl, rfl⟩ | ⟨g, rfl, hg, hgl, hcap⟩
  · refine (deleteE_nil w _ 0).mono ?_
    rintro e w' ⟨rfl, hb1⟩
    exact ⟨⟨none, 0, rfl, World.ownsRow_nil _ _ _ _⟩, hb1.mono hbs⟩
  · refine (deleteE_calls w (base := base) small h hb (by omega) hn hcap).mono ?_
    rintro e w' ⟨rfl, h1, h2⟩
    exact ⟨⟨_, _, rfl, h1⟩, h2.below hg hbs⟩
theorem sortE_own (w : World) {base c : Nat} {A : Option Addr} {l : List Ent} (h : OwnE w base A c l) (hbs : base ≤ w.heap.size) (hn : l.length ≤ 1099511627776) :
    Calls Try.prog 30 #[.slice A l.length c, .func (.func 31) #[] #[]] w fun e w' =>
      e = .returned (.tuple #[]) ∧ OwnE w' base A c (isort (ltc cfE) l) ∧ Below base w w' := by
  rcases own_cases h with ⟨rfl, rfl, rfl⟩ | ⟨g, rfl, hg, hgl, hcap⟩
  · refine (sortE_nil w _ 0).mono ?_
    rintro e w' ⟨rfl, hb1⟩
    exact ⟨rfl, World.ownsRow_nil _ _ _ _, hb1.mono hbs⟩
  · refine (sortE_calls l.length base g c w l h rfl hn).mono ?_
    rintro e w' ⟨rfl, h1, h2⟩
    exact ⟨rfl, h1, h2.below hg hbs⟩

set_option maxRecDepth 100000 in
theorem slice9_run (w : World) (A : Option Addr) (n c k : Nat) (h : k + 1 ≤ n) (hc : n ≤ c) :
    (Instr.slice 22 (.slice A n c) (some (.int .i64 ((k : Int) + 1))) none none).run Try.prog w = .ok (.slice (if c = k + 1 then A else A.map (·.add ((k + 1) * 9))) (n - (k + 1)) (c - (k + 1))) w := by
  have e : ((k : Int) + 1).toNat = k + 1 := by omega
  obtain ⟨i, hi, _, hs, _⟩ := info_parts Try.infoEnt
  have hE : Try.prog.elem 22 = 29 := by kernel_rfl
  rw [run_slice_l w _ A n c Try.underlying22 .i64 _ (by omega) (by omega)]
  rw [hE]
  simp [sliced, Result.andThen, e, sizeOf, typeInfo, hi, hs]

theorem bytes_eqm (a b : ByteArray) : (a.toList == b.toList) = decide (a = b) := by
  rw [ByteArray.toList_eq, ByteArray.toList_eq]
  by_cases h : a = b
  · simp [h]
  · have h2 : a.data.toList ≠ b.data.toList := fun e => h (ByteArray.ext (Array.toList_inj.1 e))
    rw [dcf h]
    simpa using h2
theorem foldl_snoc {α β : Type} [Inhabited α] (f : β → α → β) (r : List α) {j : Nat} (hj : j < r.length) (q : β) : (r.take (j + 1)).foldl f q = f ((r.take j).foldl f q) (gt r j) := by
  rw [List.take_add_one, List.getElem?_eq_getElem hj, gt_eq hj]; simp
theorem reads_two (w : World) (o : Obj) (t : TypeId) (u : Value) : Reads ((w.alloc o).alloc (.cells #[u] t)) (w.heap.size + 2) 1 (some ⟨w.heap.size + 1, 0, none⟩) 1 [u] := by
  have := Reads.made (n := 1) (size := 1) (w.alloc o) #[u] t rfl
  rw [World.size_alloc] at this
  exact this
theorem push_key (w : World) {base kn c : Nat} {A : Option Addr} {ks : List ByteArray} (k : ByteArray) (h : w.ownsRow base 9 1 (.slice A (kn + 1) c) (kn + 1) (ks.map .string ++ [.string k])) : w.ownsRow base 9 1 (.slice A (kn + 1) c) (kn + 1) ((ks ++ [k]).map .string) := by
  rw [List.map_append]; exact h
theorem own_new (w : World) (t : TypeId) (cs : Array Value) (size n : Nat) {base : Nat} (hb : base ≤ w.heap.size) (hm : n ≤ maxLen) (hs : cs.size = n * size) : (w.alloc (.cells cs t)).ownsRow base t size (.slice (some ⟨w.heap.size, 0, none⟩) n n) n cs.toList :=
  ⟨by simpa using hs, .inr ⟨w.heap.size, n, cs, rfl, hb, heap_alloc_new w _, Nat.le_refl _, hm, hs, by rw [← hs]; exact List.take_length⟩⟩
theorem flat_drop {α : Type} (c : α → Nat → Value) : ∀ (d : List α) (k : Nat), (flat c d).drop (k * 9) = flat c (d.drop k)
  | [], k => by simp [flat]
  | x :: r, 0 => by simp
  | x :: r, k + 1 => by
    rw [flat_cons, List.drop_succ_cons, ← flat_drop c r k, show (k + 1) * 9 = 9 + k * 9 by omega, ← List.drop_drop]
    rfl
theorem isort_mem {α : Type} {lt : α → α → Bool} {l : List α} {x : α} : x ∈ isort lt l ↔ x ∈ l := (isort_perm l).mem_iff
/-- What is left after taking lies within bounds. -/
theorem took_le (a : Ent) (r : List Ent) (hr : ∀ x ∈ r, 0 ≤ x.rows ∧ x.rows ≤ 1099511627776) : ∀ (q : Int × List ByteArray), -1099511627776 ≤ q.1 → q.1 ≤ 1099511627776 → -1099511627776 ≤ (r.foldl (stp a) q).1 ∧ (r.foldl (stp a) q).1 ≤ 1099511627776 ∧ (r.foldl (stp a) q).2.length ≤ q.2.length + r.length := by
  induction r with
  | nil => intro q h1 h2; exact ⟨h1, h2, by simp⟩
  | cons x r ih =>
    intro q h1 h2
    have hx := hr x (by simp)
    have ih := ih (fun y hy => hr y (by simp [hy])) (stp a q x)
    simp only [List.foldl_cons, List.length_cons]
    have hq : -1099511627776 ≤ (stp a q x).1 ∧ (stp a q x).1 ≤ 1099511627776 ∧ (stp a q x).2.length ≤ q.2.length + 1 := by
      unfold stp
      split
      · rename_i h
        exact ⟨by show _ ≤ q.1 - x.rows; omega, by show q.1 - x.rows ≤ _; omega, by simp⟩
      · exact ⟨h1, h2, by omega⟩
    obtain ⟨k1, k2, k3⟩ := ih hq.1 hq.2.1
    exact ⟨k1, k2, by omega⟩

def RetStrs (w : World) (l : List ByteArray) (e : Ending) (w' : World) : Prop := ∃ A c, e = .returned (.slice A l.length c) ∧ w'.ownsRow w.heap.size 9 1 (.slice A l.length c) l.length (l.map .string) ∧ Below w.heap.size w w'
theorem Try.infoStr : (Try.prog.info? 9).map (fun i => (i.zero, i.size, i.bytes)) = some (some (.string ⟨#[]⟩), 1, 16) := by kernel_rfl

set_option maxRecDepth 100000 in
set_option maxHeartbeats 6400000 in
theorem choose_calls (w : World) {B c : Nat} {A : Option Addr} {l : List Ent} (small most : Int) (h : Ents w B A l) (hB : B ≤ w.heap.size) (hn : l.length ≤ 1048576) (hm0 : 0 ≤ most) (hm1 : most ≤ 1099511627776) (hrows : ∀ x ∈ l, 0 ≤ x.rows ∧ x.rows ≤ 1099511627776) :
    Calls Try.prog 11 #[.slice A l.length c, .int .i64 small, .int .i64 most] w (RetStrs w (chooseE small most l)) := by
  have HR : Hid (∀ x ∈ isort (ltc cfE) (smalls small l), 0 ≤ x.rows ∧ x.rows ≤ 1099511627776) := Lib.hid fun x hx => hrows x (List.mem_filter.1 (isort_mem.1 hx)).1
  have hsl : (smalls small l).length ≤ 1048576 := Nat.le_trans (List.length_filter_le _ _) hn
  have HS : Hid (chooseE small most l = pickE most (isort (ltc cfE) (smalls small l))) := Lib.hid rfl
  have H1 := Lib.hid (cloneE_calls (w.alloc (.cells #[.int .i64 small] 3)) (c := c) (h.to ((Below.refl B w).alloc hB _) (Nat.le_refl _)) (by simp; omega) (by omega))
  have H2 := Lib.hid fun (W : World) (A : Option Addr) (c : Nat) (k : OwnE W (w.heap.size + 1) A c l) (kb : W.cell? ⟨w.heap.size, 0, none⟩ = some (.int .i64 small)) (ks : w.heap.size + 1 ≤ W.heap.size) => deleteE_own W small k kb (by omega) ks (by omega)
  have H3 := Lib.hid fun (W : World) (A : Option Addr) (c : Nat) (k : OwnE W (w.heap.size + 1) A c (smalls small l)) (ks : w.heap.size + 1 ≤ W.heap.size) => sortE_own W k ks (by omega)
  have hil : (isort (ltc cfE) (smalls small l)).length = (smalls small l).length := isort_len _
  rw [← hil] at hsl
  clear h hrows
  go_enter Try.func11, Try.ntmps11
  go_wp2_with fail
  refine H1.out.mono ?_
  rintro e w1 ⟨A1, c1, rfl, hown1, hb1⟩
  have hs1 := hb1.size
  rw [World.size_alloc] at hs1 hown1
  go_wp2_with fail
  refine (H2.out w1 A1 c1 hown1 (by rw [hb1.cell (p := ⟨w.heap.size, 0, none⟩) (by simp)]; exact (Blk.new w _ _).cell 0) hs1).mono ?_
  rintro e w2 ⟨⟨A2, c2, rfl, hown2⟩, hb2⟩
  have hs2 := hb2.size
  have H3' := H3.out w2 A2 c2 hown2 (by omega)
  rw [← hil] at H3' ⊢
  have hb02 : Below w.heap.size w w2 := (((Below.refl _ w).alloc (Nat.le_refl _) (.cells #[.int .i64 small] 3)).trans (hb1.mono (by simp))).trans (hb2.mono (by omega))
  clear H1 H2 H3 hown1 hown2 hb1 hb2 hil
  generalize isort (ltc cfE) (smalls small l) = s at *
  obtain ⟨n, hn'⟩ : ∃ n, n = s.length := ⟨_, rfl⟩
  rw [← hn'] at H3' hsl ⊢
  have HN := Lib.hid hn'
  clear hn'
  have H3 := Lib.hid H3'
  clear H3'
  go_wp2_with fail
  refine H3.out.mono ?_
  rintro e w3 ⟨rfl, hown3, hb3⟩
  have hs3 := hb3.size
  have hb03 := hb02.trans (hb3.mono (by omega))
  have hnc : n ≤ c2 := by
    rcases own_cases hown3 with ⟨_, _, h⟩ | ⟨_, _, _, _, h⟩
    · rw [HN.out, h]; simp
    · rw [HN.out]; exact h
  have hrd : Reads w3 w3.heap.size 9 A2 n (flat Ent.c s) := by have := Reads.of_own hown3; rw [← HN.out] at this; exact this
  have HRD := Lib.hid hrd
  clear hown3 hb02 hb3 H3 hrd hn
  go_wp2
  go_loopw [21] (fun iv wr => ∃ i : Nat, i ≤ n ∧ iv = .int .i64 (i : Int) ∧ Hid (pickE most s = pickE most (s.drop i)) ∧ Below w3.heap.size w3 wr) (fun iv _ => n - (intOf iv).toNat)
  case atStart => exact ⟨0, Nat.zero_le _, rfl, Lib.hid (by rw [List.drop_zero]), Below.refl _ _⟩
  case round =>
    obtain ⟨i, hin, rfl, HP, hbel⟩ := hrel
    obtain ⟨wo, rfl⟩ : ∃ wo : World, wo = wr := ⟨_, rfl⟩
    by_cases hlt : i < n
    · have hent : Ents wo w3.heap.size A2 s := by
        have := HRD.out.below hbel
        rw [HN.out] at this
        exact this
      have hsn := HN.out
      obtain ⟨bA, off, rfl, hbB, hcell⟩ := hent.cellAt (by omega)
      have hc := hcell i (by omega)
      have y0 := hc 0 (by omega)
      have y1 := hc 1 (by omega)
      have y2 := hc 2 (by omega)
      have y3 := hc 3 (by omega)
      have y4 := hc 4 (by omega)
      have y5 := hc 5 (by omega)
      have y6 := hc 6 (by omega)
      have y7 := hc 7 (by omega)
      have y8 := hc 8 (by omega)
      have hx := HR.out _ (show gt s i ∈ s by rw [← gt_eq (by omega)]; exact List.getElem_mem _)
      have hdrop : s.drop i = gt s i :: s.drop (i + 1) := by rw [List.drop_eq_getElem_cons (by omega), gt_eq]
      have hcut := Reads.cut (k := i + 1) (cap := c2) (n := s.length) hent (by omega) (by omega)
      rw [flat_drop, ← hsn] at hcut
      have hrun := fun W => slice9_run W (some ⟨bA, off, none⟩) n c2 i (by omega) hnc
      have hrl : (s.drop (i + 1)).length = n - (i + 1) := by rw [List.length_drop, ← hsn]
      have HRR : Hid (∀ x ∈ s.drop (i + 1), 0 ≤ x.rows ∧ x.rows ≤ 1099511627776) := Lib.hid fun x hx => HR.out x (List.mem_of_mem_drop hx)
      rw [hdrop] at HP
      rw [← hrl] at hcut
      generalize (if c2 = i + 1 then some (⟨bA, off, none⟩ : Addr) else (some (⟨bA, off, none⟩ : Addr)).map (·.add ((i + 1) * 9))) = AC at *
      generalize gt s i = x at *
      obtain ⟨hx0, hx1⟩ := hx
      have HDR := Lib.hid hdrop
      obtain ⟨m, hm⟩ : ∃ m, m = n - (i + 1) := ⟨_, rfl⟩
      rw [← hm] at hrun hrl
      have hmn : m < n := by omega
      have hmi : m + (i + 1) ≤ n := by omega
      have HM := Lib.hid hm
      have HCUT := Lib.hid hcut
      have HRL := Lib.hid hrl
      have hsz := hbel.size
      simp only [Ent.c, Nat.add_zero] at y0 y1 y2 y3 y4 y5 y6 y7 y8
      clear hent hcell hc hdrop hcut hsn hm hrl
      have hmx : max x.rows 0 = x.rows := by omega
      have hs0 : (w3.heap.size : Nat) ≤ wo.heap.size := hsz
      have HF0 : Hid (((s.drop (i + 1)).take 0).foldl (stp x) (most - x.rows, [x.key]) = (most - x.rows, [x.key])) := Lib.hid (by simp)
      go_wp2_with fail
      have hown0 : ((wo.alloc (.cells #[.string x.key, .int .i64 x.window, .string x.part, .int .i64 x.first, .int .i64 x.last, .int .i64 x.rows, .int .i64 x.size, .int .u32 x.sum, .int .i64 x.born] 29)).alloc (.cells #[.string x.key] 9)).ownsRow (wo.heap.size + 1) 9 1 (.slice (some ⟨wo.heap.size + 1, 0, none⟩) 1 1) 1 ([x.key].map .string) := by
        have := own_new (wo.alloc (.cells #[.string x.key, .int .i64 x.window, .string x.part, .int .i64 x.first, .int .i64 x.last, .int .i64 x.rows, .int .i64 x.size, .int .u32 x.sum, .int .i64 x.born] 29)) 9 #[.string x.key] 1 1 (base := wo.heap.size + 1) (by simp) (by unfold maxLen; omega) rfl
        rw [World.size_alloc] at this
        exact this
      have hbk0 : Blk (wo.alloc (.cells #[.string x.key, .int .i64 x.window, .string x.part, .int .i64 x.first, .int .i64 x.last, .int .i64 x.rows, .int .i64 x.size, .int .u32 x.sum, .int .i64 x.born] 29)) wo.heap.size 29 #[.string x.key, .int .i64 x.window, .string x.part, .int .i64 x.first, .int .i64 x.last, .int .i64 x.rows, .int .i64 x.size, .int .u32 x.sum, .int .i64 x.born] := Blk.new _ _ _
      have hb40 : Below (wo.heap.size + 1) (wo.alloc (.cells #[.string x.key, .int .i64 x.window, .string x.part, .int .i64 x.first, .int .i64 x.last, .int .i64 x.rows, .int .i64 x.size, .int .u32 x.sum, .int .i64 x.born] 29)) ((wo.alloc (.cells #[.string x.key, .int .i64 x.window, .string x.part, .int .i64 x.first, .int .i64 x.last, .int .i64 x.rows, .int .i64 x.size, .int .u32 x.sum, .int .i64 x.born] 29)).alloc (.cells #[.string x.key] 9)) := (Below.refl _ _).alloc (by simp) _
      have hsw4 : (wo.alloc (.cells #[.string x.key, .int .i64 x.window, .string x.part, .int .i64 x.first, .int .i64 x.last, .int .i64 x.rows, .int .i64 x.size, .int .u32 x.sum, .int .i64 x.born] 29)).heap.size = wo.heap.size + 1 := by simp
      have hbe4 : Below wo.heap.size wo (wo.alloc (.cells #[.string x.key, .int .i64 x.window, .string x.part, .int .i64 x.first, .int .i64 x.last, .int .i64 x.rows, .int .i64 x.size, .int .u32 x.sum, .int .i64 x.born] 29)) := (Below.refl _ _).alloc (Nat.le_refl _) _
      have hgg : wo.heap.size < wo.heap.size + 1 := by omega
      have HI0 := Lib.hid (⟨hown0, hbk0, hb40, hsw4, hbe4⟩ : _ ∧ _ ∧ _ ∧ _ ∧ _)
      clear hown0 hbk0 hb40 hsw4 hbe4
      generalize (wo.alloc (.cells #[.string x.key, .int .i64 x.window, .string x.part, .int .i64 x.first, .int .i64 x.last, .int .i64 x.rows, .int .i64 x.size, .int .u32 x.sum, .int .i64 x.born] 29)) = w4 at *
      go_loopw [39, 9, 10] (fun vj vl vk wx => ∃ (j kn : Nat) (lf : Int) (A c : _), j ≤ m ∧ kn ≤ j + 1 ∧ -1099511627776 ≤ lf ∧ lf ≤ 1099511627776 ∧ vj = .int .i64 (j : Int) ∧ vl = .int .i64 lf ∧ vk = .slice A kn c ∧ Hid (∃ ks, ks.length = kn ∧ ((s.drop (i + 1)).take j).foldl (stp x) (most - x.rows, [x.key]) = (lf, ks) ∧ wx.ownsRow (wo.heap.size + 1) 9 1 (.slice A kn c) kn (ks.map .string)) ∧ Below (wo.heap.size + 1) w4 wx) (fun vj _ _ _ => m - (intOf vj).toNat)
      case atStart => exact ⟨0, 1, _, _, _, Nat.zero_le _, by omega, by omega, by omega, rfl, rfl, rfl, Lib.hid ⟨[x.key], rfl, HF0.out, HI0.out.1⟩, HI0.out.2.2.1⟩
      case round =>
        obtain ⟨j, kn, lf, A, cc, hjm, hkj, hlf0, hlf1, rfl, rfl, rfl, HK, hbx⟩ := hrel
        have hsx := hbx.size
        have hs4 := HI0.out.2.2.2.1
        rw [hs4] at hsx
        have hsx2 : wo.heap.size < wr.heap.size := by omega
        clear hs4
        have hbka := HI0.out.2.1.below hbx hgg
        have z0 := hbka.cell 0
        have z1 := hbka.cell 1
        have z2 := hbka.cell 2
        simp only [List.getElem?_toArray, List.getElem?_cons_zero, List.getElem?_cons_succ] at z0 z1 z2
        clear hbka
        by_cases hjl : j < m
        · have hbw : Below w3.heap.size wo wr := (HI0.out.2.2.2.2.mono hsz).trans (hbx.mono (by omega))
          have hre : Ents wr w3.heap.size AC (s.drop (i + 1)) := HCUT.out.below hbw
          have hrl := HRL.out
          obtain ⟨bC, oC, hAC, hbB, hcell⟩ := hre.cellAt (by omega)
          have hc := hcell j (by omega)
          have y0 := hc 0 (by omega)
          have y1 := hc 1 (by omega)
          have y2 := hc 2 (by omega)
          have y3 := hc 3 (by omega)
          have y4 := hc 4 (by omega)
          have y5 := hc 5 (by omega)
          have y6 := hc 6 (by omega)
          have y7 := hc 7 (by omega)
          have y8 := hc 8 (by omega)
          have hb := HRR.out _ (show gt (s.drop (i + 1)) j ∈ s.drop (i + 1) by rw [← gt_eq (by omega)]; exact List.getElem_mem _)
          have HS1 := Lib.hid (foldl_snoc (stp x) (s.drop (i + 1)) (j := j) (by omega) (most - x.rows, [x.key]))
          generalize gt (s.drop (i + 1)) j = b at *
          obtain ⟨hb0, hb1⟩ := hb
          have hmb : max b.rows 0 = b.rows := by omega
          simp only [Ent.c, Nat.add_zero] at y0 y1 y2 y3 y4 y5 y6 y7 y8
          subst hAC
          clear hre hcell hc hrl hbB
          have HBX := Lib.hid hbx
          clear hbx hbw
          have HSK : Hid (¬ (x.window = b.window ∧ x.part = b.part ∧ b.rows ≤ lf) → ∀ wy, Below (wo.heap.size + 1) wr wy → Below wr.heap.size wr wy → ∃ ks, ks.length = kn ∧ ((s.drop (i + 1)).take (j + 1)).foldl (stp x) (most - x.rows, [x.key]) = (lf, ks) ∧ wy.ownsRow (wo.heap.size + 1) 9 1 (.slice A kn cc) kn (ks.map .string)) := Lib.hid fun hno wy _ h2 => by
            obtain ⟨ks, e1, e2, e3⟩ := HK.out
            refine ⟨ks, e1, ?_, own_below e3 h2⟩
            rw [HS1.out, e2]
            exact if_neg hno
          by_cases q1 : x.window = b.window
          · by_cases q2 : x.part = b.part
            · by_cases q3 : b.rows ≤ lf
              · have t1 : (x.window == b.window) = true := eqt q1
                have t2 : (x.part.toList == b.part.toList) = true := by rw [bytes_eqm]; exact dct q2
                have t3 : decide (b.rows ≤ lf) = true := dct q3
                have HST : Hid (stp x = fun q b => stp x q b) := Lib.hid rfl
                have HQ := Lib.hid (⟨q1, q2, q3⟩ : _ ∧ _ ∧ _)
                obtain ⟨ks, HKS⟩ : ∃ ks, Hid (ks.length = kn ∧ ((s.drop (i + 1)).take j).foldl (stp x) (most - x.rows, [x.key]) = (lf, ks) ∧ wr.ownsRow (wo.heap.size + 1) 9 1 (.slice A kn cc) kn (ks.map .string)) := by
                  obtain ⟨ks, hks⟩ := HK.out
                  exact ⟨ks, Lib.hid hks⟩
                have hq3 := q3
                clear q1 q2 q3 HSK HK
                go_wp2_with (at_builtin; go_must (refine wpList_append_sl _ rfl (.tmp 67) (.tmp 70) _ rfl (wo.heap.size + 1) 9 _ 1 16 Try.underlying25 Try.infoStr rfl (by omega) _ _ _ rfl ((HKS.out.2.2.alloc _).alloc _) (wr.heap.size + 2) _ 1 1 [.string b.key] rfl (reads_two wr _ _ _) (by simp [Value.oneCell']) (by unfold maxLen; omega) (by omega) (by simp; omega) ?_))
                intro A2 cc2 w5 hcc1 hcc2 hrd2 hbel2 hown2 _ _
                have HK2 : Hid (((s.drop (i + 1)).take (j + 1)).foldl (stp x) (most - x.rows, [x.key]) = (lf - b.rows, ks ++ [b.key])) := Lib.hid (by
                  rw [HS1.out, HKS.out.2.1]; exact if_pos HQ.out)
                have HO2 := Lib.hid (push_key w5 b.key hown2)
                clear hown2 hrd2
                go_wp2
                go_roundw
                case rel =>
                  refine ⟨j + 1, kn + 1, lf - b.rows, A2, cc2, by omega, by omega, by omega, by omega, by go_num, rfl, rfl, Lib.hid ⟨ks ++ [b.key], by rw [List.length_append, HKS.out.1]; rfl, HK2.out, HO2.out⟩, ((HBX.out.alloc (by omega) _).alloc (by simp; omega) _).trans hbel2⟩
                case measure => simp [intOf]; omega
              · have t1 : (x.window == b.window) = true := eqt q1
                have t2 : (x.part.toList == b.part.toList) = true := by rw [bytes_eqm]; exact dct q2
                have t3 : decide (b.rows ≤ lf) = false := dcf q3
                have HS2 := Lib.hid (HSK.out (fun h => q3 h.2.2))
                clear q1 q2 q3
                go_wp2
                go_roundw
                case rel =>
                  refine ⟨j + 1, kn, lf, A, cc, by omega, by omega, hlf0, hlf1, by go_num, rfl, rfl, Lib.hid (HS2.out _ ((Below.refl _ _).alloc (by omega) _) ((Below.refl _ _).alloc (Nat.le_refl _) _)), HBX.out.alloc (by omega) _⟩
                case measure => simp [intOf]; omega
            · have t1 : (x.window == b.window) = true := eqt q1
              have t2 : (x.part.toList == b.part.toList) = false := by rw [bytes_eqm]; exact dcf q2
              have HS2 := Lib.hid (HSK.out (fun h => q2 h.2.1))
              clear q1 q2
              go_wp2
              go_roundw
              case rel =>
                refine ⟨j + 1, kn, lf, A, cc, by omega, by omega, hlf0, hlf1, by go_num, rfl, rfl, Lib.hid (HS2.out _ ((Below.refl _ _).alloc (by omega) _) ((Below.refl _ _).alloc (Nat.le_refl _) _)), HBX.out.alloc (by omega) _⟩
              case measure => simp [intOf]; omega
          · have t1 : (x.window == b.window) = false := eqf q1
            have HS2 := Lib.hid (HSK.out (fun h => q1 h.1))
            clear q1
            go_wp2
            go_roundw
            case rel =>
              refine ⟨j + 1, kn, lf, A, cc, by omega, by omega, hlf0, hlf1, by go_num, rfl, rfl, Lib.hid (HS2.out _ ((Below.refl _ _).alloc (by omega) _) ((Below.refl _ _).alloc (Nat.le_refl _) _)), HBX.out.alloc (by omega) _⟩
            case measure => simp [intOf]; omega
        · obtain rfl : j = m := by omega
          obtain ⟨ks, HKS⟩ : ∃ ks, Hid (ks.length = kn ∧ took x most (s.drop (i + 1)) = (lf, ks) ∧ wr.ownsRow (wo.heap.size + 1) 9 1 (.slice A kn cc) kn (ks.map .string)) := by
            obtain ⟨ks, h1, h2, h3⟩ := HK.out
            rw [List.take_of_length_le (by rw [HRL.out]; omega)] at h2
            exact ⟨ks, Lib.hid ⟨h1, h2, h3⟩⟩
          have HBX := Lib.hid ((HI0.out.2.2.2.2.mono (Nat.le_refl _)).trans (hbx.mono (by omega)))
          clear HK hbx
          by_cases p1 : 1 < kn
          · have d1 : decide (1 < (kn : Int)) = true := dct (by omega)
            by_cases p2 : 0 ≤ lf
            · have d2 : decide (0 ≤ lf) = true := dct p2
              have HV : Hid (chooseE small most l = ks) := Lib.hid (by
                rw [HS.out, HP.out]
                unfold pickE
                rw [HKS.out.2.1, if_pos ⟨by rw [HKS.out.1]; exact p1, p2⟩])
              go_wp2
              go_ret
              refine ⟨A, cc, by rw [HV.out, HKS.out.1]; rfl, ?_, hb03.trans ((hbel.mono (by omega)).trans (HBX.out.mono (by omega)))⟩
              rw [HV.out, HKS.out.1]
              exact own_base HKS.out.2.2 (by omega)
            · have d2 : decide (0 ≤ lf) = false := dcf p2
              have HP2 : Hid (pickE most s = pickE most (s.drop (i + 1))) := Lib.hid (by
                rw [HP.out]
                conv => lhs; unfold pickE
                rw [HKS.out.2.1, if_neg (fun h => p2 h.2)])
              go_wp2
              go_roundw
              case rel => exact ⟨i + 1, by omega, by go_num, HP2, hbel.trans (HBX.out.mono (by omega))⟩
              case measure => simp [intOf]; omega
          · have d1 : decide (1 < (kn : Int)) = false := dcf (by omega)
            have HP2 : Hid (pickE most s = pickE most (s.drop (i + 1))) := Lib.hid (by
              rw [HP.out]
              conv => lhs; unfold pickE
              rw [HKS.out.2.1, if_neg (fun h => p1 (by have := h.1; rw [HKS.out.1] at this; exact this))])
            go_wp2
            go_roundw
            case rel => exact ⟨i + 1, by omega, by go_num, HP2, hbel.trans (HBX.out.mono (by omega))⟩
            case measure => simp [intOf]; omega
    · obtain rfl : i = n := by omega
      have HV : Hid (chooseE small most l = []) := Lib.hid (by
        rw [HS.out, HP.out, List.drop_of_length_le (by rw [← HN.out]; omega)]
        rfl)
      go_wp2
      go_ret
      refine ⟨none, 0, by rw [HV.out]; rfl, by rw [HV.out]; exact World.ownsRow_nil _ _ _ _, hb03.trans (hbel.mono (by omega))⟩
end Go.Proofs.Ytophfgijfmdbcaa
