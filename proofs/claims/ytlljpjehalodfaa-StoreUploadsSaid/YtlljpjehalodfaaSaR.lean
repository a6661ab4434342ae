/- Versions rise; a conditional put of one version (chapter 14; plain); slices of bytes as an argument. -/
import Derived.Test.YtlljpjehalodfaaProg
import Derived.Test.YtlljpjehalodfaaSaQ
namespace Go.Proofs.Ytlljpjehalodfaa
open Go.RowKit
open Go.ChangeShapes Go.WideShapes
namespace St

theorem step_ver (s : PS) (c : PC) : s.ver ≤ (s.step c).1.ver ∧ ((s.step c).2.err = 0 → c.kind = 1 ∨ c.kind = 2 ∨ c.kind = 9 → (s.step c).2.ver = s.ver + 1 ∧ (s.step c).1.ver = s.ver + 1) := by
  unfold PS.step
  split
  · unfold PS.put
    split
    · refine ⟨?_, fun _ _ => ⟨rfl, rfl⟩⟩
      show s.ver ≤ s.ver + 1
      omega
    · rename_i h; exact ⟨Int.le_refl _, fun h' => absurd h' h⟩
  rename_i h1
  split
  · rename_i hk; exact ⟨Int.le_refl _, fun _ h => absurd hk (by omega)⟩
  split
  · rename_i hk; exact ⟨Int.le_refl _, fun _ h => absurd hk (by omega)⟩
  split
  · rename_i hk; exact ⟨Int.le_refl _, fun _ h => absurd hk (by omega)⟩
  split
  · rename_i hk
    refine ⟨?_, fun _ h => absurd hk (by omega)⟩
    unfold PS.create
    split <;> exact Int.le_refl _
  split
  · rename_i hk
    refine ⟨?_, fun _ h => absurd hk (by omega)⟩
    unfold PS.drop
    split <;> exact Int.le_refl _
  split
  · unfold PS.upload
    split
    · exact ⟨Int.le_refl _, fun h' => absurd h' (show ¬ (7 : Int) = 0 by decide)⟩
    rename_i u hm
    split
    · rename_i h8
      refine ⟨?_, fun _ h => absurd h8 (by omega)⟩
      unfold PS.part
      split <;> exact Int.le_refl _
    split
    · unfold PS.complete
      split
      · refine ⟨?_, fun _ _ => ⟨rfl, rfl⟩⟩
        show s.ver ≤ s.ver + 1
        omega
      · rename_i h; exact ⟨Int.le_refl _, fun h' => absurd h' h⟩
    · rename_i h9
      exact ⟨Int.le_refl _, fun _ h => absurd h9 (by omega)⟩
  · exact ⟨Int.le_refl _, fun h' => absurd h' (show ¬ (1 : Int) = 0 by decide)⟩
def verA (s : PS) : Int := ((mget s.objs keyA).getD po0).ver
theorem verA_le {s : PS} {n : Nat} (h : PInv s n) : 0 ≤ verA s ∧ verA s ≤ s.ver := by
  have hv := h.v0
  unfold verA
  cases hm : mget s.objs keyA with
  | none => exact ⟨Int.le_refl _, hv⟩
  | some o =>
    have := h.ov _ (mget_mem hm)
    dsimp only at this
    show 0 ≤ o.ver ∧ o.ver ≤ s.ver
    omega
theorem get_verA (s : PS) : ((s.step (clGet keyA).pure).2).ver = verA s := by
  cases h : mget s.objs keyA with
  | some o => rw [step_get h]; unfold verA rGet; rw [h]; rfl
  | none =>
    have h' : mget s.objs (clGet keyA).pure.key = none := h
    have e : s.getE (clGet keyA).pure = 7 := by
      unfold PS.getE
      exact if_pos (by rw [h']; rfl)
    rw [kind_step]
    refine (congrArg (fun x : PS × PR => x.2.ver) ((if_neg (by show ¬ ((3 : Int) = 1 ∨ (3 : Int) = 2); omega)).trans (if_pos (.inl rfl)))).trans ?_
    unfold PS.get verA
    rw [if_neg (by rw [e]; decide), h]; rfl
def clPut (ver : Int) (A : Option Addr) (c : Nat) (d : Bs) : Cl := ⟨2, keyA, A, c, d, ver, 0, 0, 0⟩
theorem step_putif {s : PS} {ver : Int} {A : Option Addr} {c : Nat} {d : Bs} (h : (s.step (clPut ver A c d).pure).2.err = 0) : verA s = ver ∧ (s.step (clPut ver A c d).pure).1 = s.made keyA d := by
  have e : s.step (clPut ver A c d).pure = s.put (clPut ver A c d).pure := by
    rw [kind_step]; exact if_pos (.inr rfl)
  rw [e] at h ⊢
  unfold PS.put at h ⊢
  by_cases h0 : s.putE (clPut ver A c d).pure = 0
  · rw [if_pos h0]
    refine ⟨?_, rfl⟩
    unfold PS.putE at h0
    rw [if_neg (by show ¬ rightB keyA = false; rw [rightA]; decide)] at h0
    by_cases h1 : (decide (ver = 0)) = (mget s.objs keyA).isSome
    · rw [if_pos ⟨rfl, h1⟩] at h0; exact absurd h0 (by decide)
    rw [if_neg fun hh => h1 hh.2] at h0
    by_cases h2 : (mget s.objs keyA).isSome = true ∧ ((mget s.objs keyA).getD po0).ver ≠ ver
    · rw [if_pos ⟨rfl, h2⟩] at h0; exact absurd h0 (by decide)
    clear h0 h e
    unfold verA
    cases hm : mget s.objs keyA with
    | none =>
      rw [hm] at h1
      by_cases hv : ver = 0
      · rw [hv]; rfl
      · exact absurd (show decide (ver = 0) = (none : Option PO).isSome by rw [decide_eq_false hv]; rfl) h1
    | some o =>
      rw [hm] at h2
      by_cases he : o.ver = ver
      · exact he
      · exact absurd ⟨rfl, he⟩ h2
  · rw [if_neg h0] at h
    exact absurd h h0
theorem made_verA (s : PS) (d : Bs) : verA (s.made keyA d) = s.ver + 1 := by
  unfold verA
  show ((mget (mput ltS s.objs keyA ⟨d, s.ver + 1, s.now⟩) keyA).getD po0).ver = _
  rw [mget_mput, if_pos rfl]; rfl
theorem made_getA (s : PS) (d : Bs) : mget (s.made keyA d).objs keyA = some ⟨d, s.ver + 1, s.now⟩ := by
  show mget (mput ltS s.objs keyA ⟨d, s.ver + 1, s.now⟩) keyA = _
  rw [mget_mput, if_pos rfl]
theorem getA_live (w : World) {L : LS} {n : Nat} (h : At w L) (hi : PInv L.pure n) (hn : n ≤ 1000000) :
    Calls Try.prog 12 #[.pointer (some ⟨L.gs, 0, none⟩), .agg #[.int .i64 3, .string ⟨#[97]⟩, .slice none 0 0, .int .i64 0, .int .i64 0, .int .i64 0, .int .i64 0]] w fun e w' => ∃ (r : PR) (A : Option Addr) (c : Nat) (Al : Option Addr) (cl : Nat), e = .returned (.agg #[.int .i64 r.err, .slice A r.d.length c, .int .i64 r.ver, .int .i64 r.born, .int .i64 r.id, .slice Al r.list.length cl, .bool r.more]) ∧ r.ver = verA L.pure ∧ (∀ o, mget L.pure.objs keyA = some o → r.err = 0 ∧ r.d = o.d) ∧ w'.ownsRow w.heap.size 5 1 (.slice A r.d.length c) r.d.length (r.d.map byteV) ∧ At w' L ∧ Below w.heap.size w w' := by
  refine (do_live w (x := clGet keyA) h hi hn (dat_nil _ _) ⟨by show 1 ≤ maxLen; unfold maxLen; omega, by show 0 ≤ _; omega, w0_, w0_⟩).mono ?_
  rintro e w' ⟨L', v, rfl, hr, hs, -⟩
  have e := hs.same (.inl rfl)
  subst e
  obtain ⟨A, c, Al, cl, hv, h1, -⟩ := hr
  refine ⟨_, A, c, Al, cl, by rw [hv], get_verA _, fun o ho => ?_, h1, hs.at_, hs.quiet (.inl rfl)⟩
  rw [step_get ho]; exact ⟨rfl, rfl⟩
theorem putA_live (w : World) {L : LS} {n : Nat} {ver : Int} {A : Option Addr} {c : Nat} {d : Bs} (h : At w L) (hi : PInv L.pure n) (hn : n ≤ 1000000) (hd : Dat w L.gs A c d) (hdl : d.length ≤ 140737488355328) :
    Calls Try.prog 12 #[.pointer (some ⟨L.gs, 0, none⟩), .agg #[.int .i64 2, .string ⟨#[97]⟩, .slice A d.length c, .int .i64 ver, .int .i64 0, .int .i64 0, .int .i64 0]] w fun e w' => ∃ (L' : LS) (r : PR) (A5 : Option Addr) (c5 : Nat) (A6 : Option Addr) (c6 : Nat), e = .returned (.agg #[.int .i64 r.err, .slice A5 r.d.length c5, .int .i64 r.ver, .int .i64 r.born, .int .i64 r.id, .slice A6 r.list.length c6, .bool r.more]) ∧ (r.err = 0 → verA L.pure = ver ∧ L'.pure = L.pure.made keyA d) ∧ (r.err ≠ 0 → L'.pure = L.pure) ∧ StepTo w L (clPut ver A c d) w' L' ∧ PInv L'.pure (n + 1) := by
  refine (do_live w (x := clPut ver A c d) h hi hn hd ⟨by show 1 ≤ maxLen; unfold maxLen; omega, hdl, w0_, w0_⟩).mono ?_
  rintro e w' ⟨L', v, rfl, hr, hs, hi'⟩
  obtain ⟨A5, c5, A6, c6, hv, -, -⟩ := hr
  refine ⟨L', _, A5, c5, A6, c6, by rw [hv], fun h0 => ?_, fun h0 => ?_, hs, hi'⟩
  · rw [hs.pure]; exact step_putif h0
  · rw [hs.pure]; exact step_err h0

/-- One slice of bytes of an argument. -/
structure Dt where
  A : Option Addr
  c : Nat
  d : Bs
def Dt.cells (x : Dt) : List Value := [.slice x.A x.d.length x.c]
structure Dt.ok (x : Dt) (W : World) (B : Nat) : Prop where
  dc : x.d.length ≤ x.c
  cm : x.c ≤ 140737488351232
  bytes : Bytes W B x.A x.d.length x.d
structure Dts (W : World) (B : Nat) (A : Option Addr) (l : List Dt) : Prop where
  rd : Reads W B 1 A l.length (l.flatMap Dt.cells)
  ok : ∀ a ∈ l, a.ok W B
theorem Dt.ok.below {x : Dt} {W W' : World} {B : Nat} (h : x.ok W B) (hb : Below B W W') : x.ok W' B := { h with bytes := h.bytes.below hb }
theorem Dts.below {W W' : World} {B : Nat} {A : Option Addr} {l : List Dt} (h : Dts W B A l) (hb : Below B W W') : Dts W' B A l := ⟨h.rd.below hb, fun a ha => (h.ok a ha).below hb⟩
theorem Dt.ok.dat {a : Dt} {W : World} {B gs : Nat} (h : a.ok W B) (hg : B ≤ gs) : Dat W gs a.A a.c a.d := by
  refine ⟨h.dc, fun hd => ?_⟩
  obtain ⟨b, off, e, hb, hc⟩ := h.bytes.2.2 hd
  exact ⟨b, off, e, by omega, hc⟩
set_option maxRecDepth 100000 in
theorem arg_datas {H : Type} {enc : TypeId × Value → H} {W : World} {base : Nat} {v : Value} {d : DataW H} {p : List MemPlace} (h : Arg enc Try.prog W base 23 v d p) :
    ∃ (A : Option Addr) (c : Nat) (l : List Dt), v = .slice A l.length c ∧ l.length ≤ c ∧ Dts W W.heap.size A l := by
  obtain ⟨A0, n0, c0, rfl⟩ := okWide_slice Try.underlying23 h.ok
  obtain ⟨A, c, l, e, hl, _, hby, hr, hg⟩ := (h.part rfl).rows Try.underlying23 (size := 1) (by kernel_rfl) (by decide) Dt.cells (fun x => x.ok W W.heap.size) (fun cs y h1 h2 => by
    match cs, h1 with
    | [c0], _ =>
      obtain ⟨A, c, l, rfl, hlc, hcm, hb⟩ := part_bytes h2.one
      exact ⟨⟨A, c, l⟩, ⟨hlc, hcm, hb⟩, rfl⟩) (fun _ => rfl)
  exact ⟨A, c, l, e, hl, hr, hg⟩
def dt0 : Dt := ⟨none, 0, []⟩
def gd (l : List Dt) (i : Nat) : Dt := l.getD i dt0
theorem gd_eq {l : List Dt} {i : Nat} (h : i < l.length) : l[i] = gd l i := by simp [gd, List.getD, List.getElem?_eq_getElem h]
theorem gd_mem {l : List Dt} {i : Nat} (h : i < l.length) : gd l i ∈ l := by rw [← gd_eq h]; exact List.getElem_mem h
theorem Dts.at_ {W : World} {B : Nat} {A : Option Addr} {l : List Dt} (h : Dts W B A l) {i : Nat} (hi : i < l.length) : ∃ b off, A = some ⟨b, off, none⟩ ∧ b < B ∧ W.cell? ⟨b, off + i, none⟩ = some (.slice (gd l i).A (gd l i).d.length (gd l i).c) := by
  obtain ⟨b, off, e, hb, hc⟩ := h.rd.2 (by omega)
  refine ⟨b, off, e, hb, hc i _ ?_⟩
  have := flatMap_get (size := 1) (cells := Dt.cells) (fun _ => rfl) l i hi 0 (by omega)
  rw [Nat.mul_one, Nat.add_zero] at this
  rw [this, gd_eq hi]; rfl
/-- The beginning of a slice of bytes. -/
theorem Dt.ok.cut {x : Dt} {W : World} {B : Nat} (h : x.ok W B) {k : Nat} (hk : k ≤ x.d.length) : Dt.ok ⟨x.A, x.c, x.d.take k⟩ W B := by
  have hlen : (x.d.take k).length = k := by rw [List.length_take]; omega
  exact ⟨by dsimp only; rw [hlen]; exact Nat.le_trans hk h.dc, h.cm, by dsimp only; rw [hlen]; exact h.bytes.taken hk⟩
end St
end Go.Proofs.Ytlljpjehalodfaa
