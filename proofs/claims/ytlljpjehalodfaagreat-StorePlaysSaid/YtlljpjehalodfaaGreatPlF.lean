/- The document's store: an object put (chapter 14). -/
import Derived.Test.YtlljpjehalodfaaGreatProg
import Derived.Test.YtlljpjehalodfaaGreatPlT
namespace Go.Proofs.YtlljpjehalodfaaGreat
open Go.RowKit
namespace Rf
open St

set_option maxRecDepth 100000 in
theorem twin_calls (w : World) {B c : Nat} {A : Option Addr} {d : Bs} (h : Bytes w B A d.length d) (hB : B ≤ w.heap.size) (hd : d.length ≤ 140737488355328) :
    Calls Tryz.prog 10 #[.slice A d.length c] w fun e w' => ∃ A' c', e = .returned (.slice A' d.length c') ∧ d.length ≤ c' ∧ c' ≤ maxLen ∧ w'.ownsRow w.heap.size 5 1 (.slice A' d.length c') d.length (d.map byteV) ∧ Below w.heap.size w w' := by
  have HM : Hid ((w.alloc (.cells #[] 5)).ownsRow w.heap.size 5 1 (.slice (some ⟨w.heap.size, 0, none⟩) 0 0) 0 []) := Lib.hid (World.ownsRow_made w #[] 0 (Nat.le_refl _) (Nat.zero_le _) rfl)
  have hb1 : Below w.heap.size w (w.alloc (.cells #[] 5)) := (Below.refl _ _).alloc (Nat.le_refl _) _
  have HY := Lib.hid (h.below (hb1.mono hB))
  have HB1 := Lib.hid hb1
  have hs1 := hb1.size
  clear h hb1
  go_enter Tryz.func10, Tryz.ntmps10
  go_wp2_with (at_builtin; go_must (refine wpList_append_sl _ rfl (.tmp 3) (.tmp 4) _ rfl w.heap.size 5 _ 1 1 Tryz.underlying32 Tryz.infoU8s rfl (by omega) _ _ _ rfl HM.out B A d.length c (d.map byteV) rfl HY.out.2 (byteV_one d) (by unfold maxLen; omega) (by omega) (by simp) ?_))
  intro A4 c4 w4 hc1 hc2 hrd4 hbel4 hown4 _ _
  have HO := Lib.hid hown4
  have HW := Lib.hid (HB1.out.trans hbel4)
  have HC := Lib.hid (And.intro hc1 hc2)
  clear hc1 hc2 hrd4 hbel4 hown4
  go_wp2
  go_ret
  exact ⟨A4, c4, rfl, HC.out.1, HC.out.2, HO.out, HW.out⟩
/-- An object among the others, by its key. -/
def insO (o : Ro) : List Ro → List Ro
  | [] => [o]
  | x :: r => if ltS x.key o.key = true then x :: insO o r else o :: x :: r
theorem insO_at (o : Ro) : ∀ {l : List Ro} {n : Nat}, n ≤ l.length → (∀ j (hj : j < n) (hl : j < l.length), ltS l[j].key o.key = true) → (∀ hl : n < l.length, ltS l[n].key o.key = false) → insO o l = l.take n ++ o :: l.drop n
  | [], 0, _, _, _ => rfl
  | x :: r, 0, _, _, h => by
    have := h (by simp)
    rw [List.getElem_cons_zero] at this
    unfold insO
    rw [if_neg (by rw [this]; decide)]; rfl
  | x :: r, n + 1, hn, h1, h2 => by
    have hx := h1 0 (by omega) (by simp)
    rw [List.getElem_cons_zero] at hx
    unfold insO
    rw [if_pos hx, insO_at o (n := n) (by simpa using hn) (fun j hj hl => by have := h1 (j + 1) (by omega) (by simpa using hl); rwa [List.getElem_cons_succ] at this) (fun hl => by have := h2 (by simpa using hl); rwa [List.getElem_cons_succ] at this)]
    rfl
def putL (l : List Ro) (i : Int) (o : Ro) : List Ro := if i < 0 then insO o l else l.set i.toNat o
theorem insO_mem {o x : Ro} : ∀ {l : List Ro}, x ∈ insO o l → x = o ∨ x ∈ l
  | [], h => .inl (List.mem_singleton.1 h)
  | a :: r, h => by
    unfold insO at h
    split at h
    · rcases List.mem_cons.1 h with rfl | h
      · exact .inr List.mem_cons_self
      · exact (insO_mem h).imp id (List.mem_cons_of_mem _)
    · rcases List.mem_cons.1 h with rfl | h
      · exact .inl rfl
      · exact .inr h
theorem putL_mem {l : List Ro} {i : Int} {o x : Ro} (h : x ∈ putL l i o) : x = o ∨ x ∈ l := by
  unfold putL at h
  split at h
  · exact insO_mem h
  · exact (List.mem_or_eq_of_mem_set h).symm
theorem idxF_spec {α : Type} {p : α → Bool} : ∀ (l : List α) (k : Nat), (idxF p l k = -1 ∧ ∀ x ∈ l, p x = false) ∨ ∃ i, ∃ h : i < l.length, idxF p l k = ((k + i : Nat) : Int) ∧ p l[i] = true
  | [], _ => .inl ⟨rfl, fun _ h => by cases h⟩
  | a :: r, k => by
    by_cases h : p a = true
    · exact .inr ⟨0, by simp, by unfold idxF; rw [if_pos h]; rfl, h⟩
    · have e : idxF p (a :: r) k = idxF p r (k + 1) := by rw [idxF, if_neg h]
      rcases idxF_spec r (k + 1) with ⟨h1, h2⟩ | ⟨i, h1, h2, h3⟩
      · refine .inl ⟨by rw [e, h1], fun x hx => ?_⟩
        rcases List.mem_cons.1 hx with rfl | hx
        · simpa using h
        · exact h2 x hx
      · exact .inr ⟨i + 1, by simpa using h1, by rw [e, h2]; omega, h3⟩
def RS.putO (R : RS) (o : Ro) (AO : Option Addr) (cO : Nat) : RS := { R with ver := R.ver + 1, objs := putL R.objs (R.idxO o.key) o, AO := AO, cO := cO }
theorem RAt.o_len {w : World} {base : Nat} {R : RS} (h : RAt w base R) : R.objs.length ≤ R.cO ∧ R.cO ≤ maxLen := by
  obtain ⟨A, c, e, h1, h2, -⟩ := own_slice h.ro
  unfold RS.oV at e
  injection e with _ _ e3
  exact ⟨e3 ▸ h1, e3 ▸ h2⟩
theorem RAt.u_len {w : World} {base : Nat} {R : RS} (h : RAt w base R) : R.ups.length ≤ R.cU ∧ R.cU ≤ maxLen := by
  obtain ⟨A, c, e, h1, h2, -⟩ := own_slice h.ru
  unfold RS.uV at e
  injection e with _ _ e3
  exact ⟨e3 ▸ h1, e3 ▸ h2⟩
/-- New bytes. -/
structure NewD (w wx : World) (A : Option Addr) (c : Nat) (d : Bs) : Prop where
  by_ : Bytes wx wx.heap.size A d.length d
  len : d.length ≤ c
  cm : c ≤ maxLen
  new : ∀ a, A = some a → 0 < d.length → w.heap.size ≤ a.block
section
variable {w wx wy : World} {b c base : Nat} {A : Option Addr} {d : Bs} {R : RS}
theorem newD_of (hown : wx.ownsRow b 5 1 (.slice A d.length c) d.length (d.map byteV)) (hb : w.heap.size ≤ b) (h1 : d.length ≤ c) (h2 : c ≤ maxLen) : NewD w wx A c d :=
  ⟨own_bytes hown, h1, h2, fun a ha _ => High.own hown hb a ha⟩
theorem NewD.below (h : NewD w wx A c d) (hb : Below wx.heap.size wx wy) : NewD w wy A c d := ⟨(h.by_.below hb).more hb.size, h.len, h.cm, h.new⟩
theorem NewD.lo {w0 : World} (h : NewD w wx A c d) (hs : w0.heap.size ≤ w.heap.size) : NewD w0 wx A c d := ⟨h.by_, h.len, h.cm, fun a ha hd => Nat.le_trans hs (h.new a ha hd)⟩
theorem NewD.rd (h : NewD w wx A c d) (hA : RAt w base R) : RD wx R A c d := ⟨h.by_, h.len, h.cm, fun hn a ha hf => by have := hA.foot_lt hf; have := h.new a ha hn; omega⟩
/-- An object came. -/
theorem Turn.put {R' : RS} {w9 : World} {o : Ro} (hw : Below w.heap.size w wx) (hN : NewD w wx o.A o.c o.d) (hA : RAt w9 base R') (hk : Keep R.foot wx w9) (hgr : Grew wx R R') (hu : R'.ups = R.ups) (hg : R'.g = R.g) (ho : ∀ x ∈ R'.objs, x = o ∨ x ∈ R.objs) : Turn w base R w9 R' := by
  have hs := hw.size
  refine ⟨hA, (Keep.of_below hw).trans hk, fun i hi => ?_, fun b hb => ?_, hg⟩
  · rcases hgr i hi with h1 | h1
    · exact .inl h1
    · exact .inr (by omega)
  · rcases hb with ⟨x, hx, hn, a, ha, rfl⟩ | ⟨u, hu', h2⟩
    · rcases ho x hx with rfl | h1
      · exact .inr (hN.new a ha hn)
      · exact .inl (.inl ⟨x, h1, hn, a, ha, rfl⟩)
    · exact .inl (.inr ⟨u, hu ▸ hu', h2⟩)
theorem set4_blk {g : Nat} {t : TypeId} {z0 z1 z2 z3 v0 v1 v2 v3 : Value} (h : Blk w g t #[z0, z1, z2, z3]) : Blk (set4 w g 0 v0 v1 v2 v3) g t #[v0, v1, v2, v3] := (((h.set_ 0 v0).set_ 1 v1).set_ 2 v2).set_ 3 v3
end
def cutO (A : Option Addr) (c k : Nat) : Option Addr := if c = k then A else A.map (·.add (k * 4))
set_option maxRecDepth 100000 in
theorem sliceO_at (w : World) (A : Option Addr) (n c k : Nat) (h : k ≤ n) (_hc : n ≤ c) :
    (Instr.slice 26 (.slice A n c) (some (.int .i64 (k : Int))) none none).run Tryz.prog w = .ok (.slice (cutO A c k) (n - k) (c - k)) w := by
  unfold cutO
  have e : ((k : Int)).toNat = k := by omega
  obtain ⟨i, hi, _, hs, _⟩ := info_parts Tryz.infoO
  have hE : Tryz.prog.elem 26 = 68 := by kernel_rfl
  rw [run_slice_l w _ A n c Tryz.underlying26 .i64 _ (by omega) (by omega)]
  rw [hE]
  simp [sliced, Result.andThen, e, sizeOf, typeInfo, hi, hs]
theorem takeO_reads {w : World} {A : Option Addr} {l : List Ro} {n : Nat} (h : Reads w w.heap.size 4 A l.length (oCells l)) (hn : n ≤ l.length) {o : Obj} : Reads (w.alloc o) w.heap.size 4 A n (oCells (l.take n)) := by
  have := h.take hn
  unfold oCells at this ⊢
  rw [flat4_take (f := Ro.cells) (s := 4) (fun _ => rfl)] at this
  exact this.below ((Below.refl _ _).alloc (Nat.le_refl _) _)
theorem dropO_reads {w : World} {A : Option Addr} {l : List Ro} {n c : Nat} (h : Reads w w.heap.size 4 A l.length (oCells l)) (hn : n ≤ l.length) (hc : l.length ≤ c) : Reads w w.heap.size 4 (cutO A c n) (l.length - n) (oCells (l.drop n)) := by
  have := h.cut hn hc
  unfold oCells at this ⊢
  rw [flat4_drop (f := Ro.cells) (s := 4) (fun _ => rfl)] at this
  exact this
theorem o_one' (x : Ro) : ∀ u ∈ x.cells, u.oneCell' = true := by
  have := o_one [x]
  unfold oCells at this
  rwa [List.flatMap_singleton] at this
def zO4 : Array Value := #[.string ⟨#[]⟩, .slice none 0 0, .int .i64 0, .int .i64 0]
def RetPutR (w : World) (base : Nat) (R : RS) (k : ByteArray) (d : Bs) (e : Ending) (w' : World) : Prop :=
  e = .returned (.agg #[.int .i64 0, .slice none 0 0, .int .i64 (R.ver + 1), .int .i64 R.now, .int .i64 0, .slice none 0 0, .bool false]) ∧ ∃ A' c' AO cO, Turn w base R w' (R.putO ⟨k, A', c', d, R.ver + 1, R.now⟩ AO cO)
set_option maxRecDepth 100000 in
set_option maxHeartbeats 6400000 in
theorem putR_calls (w : World) {base B c : Nat} {R : RS} (h : RAt w base R) (hn : R.objs.length ≤ 100000) (k : ByteArray) {A : Option Addr} {d : Bs} (hd : Bytes w B A d.length d) (hB : B ≤ w.heap.size) (hout : Out R A d.length) (hdl : d.length ≤ 140737488355328) (hv0 : 0 ≤ R.ver) (hv1 : R.ver ≤ 1000000) :
    Calls Tryz.prog 28 #[.pointer (some ⟨R.g, 0, none⟩), .string k, .slice A d.length c] w (RetPutR w base R k d) := by
  have HB4 := Lib.hid (Blk.new w 43 rep0)
  have hb1 : Below w.heap.size w (w.alloc (.cells rep0 43)) := (Below.refl _ _).alloc (Nat.le_refl _) _
  have HA1 := Lib.hid (h.below hb1)
  have HD1 := Lib.hid (hd.below (hb1.mono hB))
  have HW1 := Lib.hid hb1
  have HA0 := Lib.hid h
  have hrg : R.g < w.heap.size := h.blk.lt
  have hs1 : w.heap.size < (w.alloc (.cells rep0 43)).heap.size := HB4.out.lt
  unfold rep0 at HB4 HA1 HD1 HW1 hs1
  clear h hd hb1
  go_enter Tryz.func28, Tryz.ntmps28
  go_upto_region 1 with fail
  generalize w.alloc (.cells #[.int .i64 0, .slice none 0 0, .int .i64 0, .int .i64 0, .int .i64 0, .slice none 0 0, .bool false] 43) = w1 at *
  generalize hgr : w.heap.size = gr at *
  have z2 : w1.cell? ⟨R.g, 2, none⟩ = some (.int .i64 R.ver) := HA1.out.blk.cell 2
  have f2 := HA1.out.blk.frozen 2
  have i1 : IntKind.i64.wrap (R.ver + 1) = R.ver + 1 := by rw [IntKind.wrap_i64]; omega
  go_upto_region 2 with fail
  have HA2 := Lib.hid (HA1.out.num (i := 2) (u := .int .i64 (R.ver + 1)) (R' := { R with ver := R.ver + 1 }) rfl rfl rfl rfl rfl rfl)
  have HB5 := Lib.hid (HB4.out.far (p := ⟨R.g, 2, none⟩) (show gr ≠ R.g by omega) (.int .i64 (R.ver + 1)))
  have HK2 : Hid (Keep R.foot w (w1.setCell ⟨R.g, 2, none⟩ (.int .i64 (R.ver + 1)))) := Lib.hid ((Keep.of_below (hgr ▸ HW1.out)).setCell (.inl (.inl rfl)) _)
  have hs2 : gr < (w1.setCell ⟨R.g, 2, none⟩ (.int .i64 (R.ver + 1))).heap.size := by simpa using hs1
  have HD2 : Hid (Bytes (w1.setCell ⟨R.g, 2, none⟩ (.int .i64 (R.ver + 1))) (w1.setCell ⟨R.g, 2, none⟩ (.int .i64 (R.ver + 1))).heap.size A d.length d) := Lib.hid (.of (reads_kept (HD1.out.more (by omega)).2 (by omega) hout ((Keep.refl _ _).setCell (.inl (.inl rfl)) _)))
  clear HA1 HB4 HD1 HW1 z2 f2 i1
  generalize w1.setCell ⟨R.g, 2, none⟩ (.int .i64 (R.ver + 1)) = w2 at *
  have hg2 : R.g < w2.heap.size := by omega
  have HT2 : Hid (Turn w base R w2 { R with ver := R.ver + 1 }) := Lib.hid ⟨HA2.out, HK2.out, fun i hi => .inl hi, fun b hb => .inl hb, rfl⟩
  have HF2 : Hid (∀ i, RS.foot { R with ver := R.ver + 1 } i → i ≠ gr) := Lib.hid fun i hi => Nat.ne_of_lt (hgr ▸ HA0.out.foot_lt hi)
  have HAD2 : Hid (∀ b, RS.addr { R with ver := R.ver + 1 } b → b ≠ gr) := Lib.hid fun i hi => Nat.ne_of_lt (hgr ▸ HA0.out.addr_lt hi)
  go_cut [7] from 11 (fun s7 wx => ∃ (g7 : Nat) (A' : Option Addr) (c' : Nat), s7 = .pointer (some ⟨g7, 0, none⟩) ∧ Hid (Blk wx g7 68 #[.string k, .slice A' d.length c', .int .i64 (R.ver + 1), .int .i64 R.now]) ∧ Hid (w2.heap.size ≤ g7) ∧ Hid (NewD w2 wx A' c' d) ∧ Hid (Below w2.heap.size w2 wx))
  case first =>
    have Hk2 : Hid (∀ W, Below w2.heap.size w2 W → W.cell? ⟨R.g, 2, none⟩ = some (.int .i64 (R.ver + 1)) ∧ W.cell? ⟨R.g, 4, none⟩ = some (.int .i64 R.now)) := Lib.hid fun W hW => ⟨(HA2.out.below hW).blk.cell 2, (HA2.out.below hW).blk.cell 4⟩
    refine wp_region_T 13 (fun w' => w'.cell? ⟨R.g, 2, none⟩ = some (.int .i64 (R.ver + 1)) ∧ w'.cell? ⟨R.g, 4, none⟩ = some (.int .i64 R.now)) (by kernel_rfl) (Hk2.out _ (below_drewN_ (Below.refl _ _) 1)) (fun hHeld => ?_)
    have HW0 : Hid (Below w2.heap.size w2 w2.drew) := Lib.hid (below_drewN_ (Below.refl _ _) 1)
    generalize w2.drew = wd at *
    refine wpAnyT_take (i := 0) (oi := _) (v := ?_) rfl (by kernel_rfl) (fun _ _ _ h => h) (Or.inl ⟨by kernel_rfl, ?_⟩) (by assumption) ?_; rotate_left; (focus (intro w hSw; (try dsimp only at hSw); go_simp; (try with_reducible rfl))); (try simp only [Act.put, List.getElem_toArray, List.getElem_cons_zero, List.setIfInBounds_toArray, List.set_cons_zero, List.set_cons_succ])
    refine wpAnyT_take (i := 1) (oi := _) (v := ?_) rfl (by kernel_rfl) (fun _ _ _ h => h) (Or.inl ⟨by kernel_rfl, ?_⟩) (by assumption) ?_; rotate_left; (focus (intro w hSw; (try dsimp only at hSw); go_simp; (try with_reducible rfl))); (try simp only [Act.put, List.getElem_toArray, List.getElem_cons_zero, List.getElem_cons_succ, List.setIfInBounds_toArray, List.set_cons_zero, List.set_cons_succ])
    refine wpAnyT_take (i := 3) (oi := _) (v := ?_) rfl (by kernel_rfl) (fun _ _ _ h => h) (Or.inl ⟨by kernel_rfl, ?_⟩) (by assumption) ?_; rotate_left; (focus (intro w hSw; (try dsimp only at hSw); go_simp; (try with_reducible rfl))); (try simp only [Act.put, List.getElem_toArray, List.getElem_cons_zero, List.getElem_cons_succ, List.setIfInBounds_toArray, List.set_cons_zero, List.set_cons_succ])
    refine wpAnyT_take (i := 4) (oi := _) (v := ?_) rfl (by kernel_rfl) (fun _ _ _ h => h) (Or.inl ⟨by kernel_rfl, ?_⟩) (by assumption) ?_; rotate_left; (focus (intro w hSw; (try dsimp only at hSw); go_simp; (try with_reducible rfl))); (try simp only [Act.put, List.getElem_toArray, List.getElem_cons_zero, List.getElem_cons_succ, List.setIfInBounds_toArray, List.set_cons_zero, List.set_cons_succ])
    refine wpAnyT_take (i := 5) (oi := _) (v := ?_) rfl (by kernel_rfl) (fun _ _ _ h => h) (Or.inl ⟨by kernel_rfl, ?_⟩) (by assumption) ?_; rotate_left; (focus (intro w hSw; (try dsimp only at hSw); go_simp; (try with_reducible rfl))); (try simp only [Act.put, List.getElem_toArray, List.getElem_cons_zero, List.getElem_cons_succ, List.setIfInBounds_toArray, List.set_cons_zero, List.set_cons_succ])
    refine wpAnyT_take (i := 6) (oi := _) (v := ?_) rfl (by kernel_rfl) (fun _ _ _ h => h) (Or.inl ⟨by kernel_rfl, ?_⟩) (by assumption) ?_; rotate_left; (focus (intro w hSw; (try dsimp only at hSw); go_simp; (try with_reducible rfl))); (try simp only [Act.put, List.getElem_toArray, List.getElem_cons_zero, List.getElem_cons_succ, List.setIfInBounds_toArray, List.set_cons_zero, List.set_cons_succ])
    refine wpAnyT_take (i := 7) (oi := _) (v := ?_) rfl (by kernel_rfl) (fun _ _ _ h => h) (Or.inl ⟨by kernel_rfl, ?_⟩) (by assumption) ?_; rotate_left; (focus (intro w hSw; (try dsimp only at hSw); go_simp; (try with_reducible rfl))); (try simp only [Act.put, List.getElem_toArray, List.getElem_cons_zero, List.getElem_cons_succ, List.setIfInBounds_toArray, List.set_cons_zero, List.set_cons_succ])
    refine wpAnyT_take (i := 8) (oi := _) (v := ?_) rfl (by kernel_rfl) (fun _ _ _ h => h) (Or.inl ⟨by kernel_rfl, ?_⟩) (by assumption) ?_; rotate_left; (focus (intro w hSw; (try dsimp only at hSw); go_simp; (try with_reducible rfl))); (try simp only [Act.put, List.getElem_toArray, List.getElem_cons_zero, List.getElem_cons_succ, List.setIfInBounds_toArray, List.set_cons_zero, List.set_cons_succ])
    refine wpAnyT_take (i := 9) (oi := _) (v := ?_) rfl (by kernel_rfl) (fun _ _ _ h => h) (Or.inl ⟨by kernel_rfl, ?_⟩) (by assumption) ?_; rotate_left; (focus (intro w hSw; (try dsimp only at hSw); go_simp; (try with_reducible rfl))); (try simp only [Act.put, List.getElem_toArray, List.getElem_cons_zero, List.getElem_cons_succ, List.setIfInBounds_toArray, List.set_cons_zero, List.set_cons_succ])
    refine wpAnyT_take (i := 10) (oi := _) (v := ?_) rfl (by kernel_rfl) (fun _ _ _ h => h) (Or.inl ⟨by kernel_rfl, ?_⟩) (by assumption) ?_; rotate_left; (focus (intro w hSw; (try dsimp only at hSw); go_simp; (try with_reducible rfl))); (try simp only [Act.put, List.getElem_toArray, List.getElem_cons_zero, List.getElem_cons_succ, List.setIfInBounds_toArray, List.set_cons_zero, List.set_cons_succ])
    refine wpAnyT_two (i := 2) (j := 12) (by kernel_rfl) rfl rfl (fun K hK => ?_) (fun K hK => ?_)
    · go_simp
      refine (twin_calls wd (HD2.out.below HW0.out) HW0.out.size hdl).mono ?_
      rintro e w3 ⟨A', c', rfl, hc1, hc2, hown3, hb3⟩
      have HW3 := Lib.hid (HW0.out.trans (hb3.mono HW0.out.size))
      have HN3 := Lib.hid (newD_of hown3 HW0.out.size hc1 hc2)
      have hH3 := Hk2.out _ HW3.out
      refine hK.out _ _ (fun _ => hH3) ?_
      clear hK K hown3 hb3 hc1 hc2 hHeld
      refine wpAnyT_take (i := 11) (oi := _) (v := ?_) rfl (by kernel_rfl) (fun _ _ _ h => h) (Or.inl ⟨by kernel_rfl, ?_⟩) (by assumption) ?_; rotate_left; (focus (intro w hSw; (try dsimp only at hSw); go_simp; (try with_reducible rfl))); (try simp only [Act.put, List.getElem_toArray, List.getElem_cons_zero, List.getElem_cons_succ, List.setIfInBounds_toArray, List.set_cons_zero, List.set_cons_succ])
      refine wpAnyT_one (i := 12) (by kernel_rfl) rfl (fun K hK => ?_); go_simp
      have HZ := Lib.hid (Blk.new w3 68 zO4)
      unfold zO4 at HZ
      have hb4 : Below w3.heap.size w3 (w3.alloc (.cells #[.string ⟨#[]⟩, .slice none 0 0, .int .i64 0, .int .i64 0] 68)) := (Below.refl _ _).alloc (Nat.le_refl _) _
      have HW4 := Lib.hid (HW3.out.trans (hb4.mono HW3.out.size))
      have HN4 := Lib.hid (HN3.out.below hb4)
      have hH4 := Hk2.out _ HW4.out
      refine hK.out _ _ (fun _ => hH4) ?_
      clear hK K
      have HB34 := Lib.hid hb4
      clear hb4 HN4 hH4 HW4
      generalize w3.alloc (.cells #[.string ⟨#[]⟩, .slice none 0 0, .int .i64 0, .int .i64 0] 68) = w4 at *
      generalize hg7 : w3.heap.size = g7 at *
      have x0 := HZ.out.cell 0
      have x1 := HZ.out.cell 1
      have x2 := HZ.out.cell 2
      have x3 := HZ.out.cell 3
      have y0 := HZ.out.frozen 0
      have y1 := HZ.out.frozen 1
      have y2 := HZ.out.frozen 2
      have y3 := HZ.out.frozen 3
      refine wpAnyT_one (i := 13) (by kernel_rfl) rfl (fun K hK => ?_); go_simp
      refine hK.out _ _ (fun h => absurd rfl h) (wpAnyT_done (by kernel_rfl) ?_ _)
      clear hK K
      have HF := Lib.hid (set4_blk (v0 := .string k) (v1 := .slice A' d.length c') (v2 := .int .i64 (R.ver + 1)) (v3 := .int .i64 R.now) HZ.out)
      have HBF := HB34.out.trans ((set4_keep (w := w4) (F := fun i => i = g7) (b := g7) (o := 0) (v0 := .string k) (v1 := .slice A' d.length c') (v2 := .int .i64 (R.ver + 1)) (v3 := .int .i64 R.now) rfl).below (B := g7) (hg7 ▸ HB34.out.size) (fun i e => by omega))
      have HGL : w2.heap.size ≤ g7 := hg7 ▸ HW3.out.size
      have HBF := Lib.hid HBF
      unfold set4 at HF HBF
      go_wp2
      go_meet
      case rel => exact ⟨g7, A', c', rfl, HF, Lib.hid HGL, Lib.hid (HN3.out.below (hg7 ▸ HBF.out)), Lib.hid (HW3.out.trans (HBF.out.mono HGL))⟩
    · go_simp
      have HZ := Lib.hid (Blk.new wd 68 zO4)
      unfold zO4 at HZ
      have hb3 : Below wd.heap.size wd (wd.alloc (.cells #[.string ⟨#[]⟩, .slice none 0 0, .int .i64 0, .int .i64 0] 68)) := (Below.refl _ _).alloc (Nat.le_refl _) _
      have HW3 := Lib.hid (HW0.out.trans (hb3.mono HW0.out.size))
      have hH3 := Hk2.out _ HW3.out
      refine hK.out _ _ (fun _ => hH3) ?_
      clear hK K hb3 hHeld
      generalize wd.alloc (.cells #[.string ⟨#[]⟩, .slice none 0 0, .int .i64 0, .int .i64 0] 68) = w3 at *
      have HGL : w2.heap.size ≤ wd.heap.size := HW0.out.size
      generalize wd.heap.size = g7 at *
      refine wpAnyT_one (i := 2) (by kernel_rfl) rfl (fun K hK => ?_); go_simp
      refine (twin_calls w3 (HD2.out.below HW3.out) HW3.out.size hdl).mono ?_
      rintro e w4 ⟨A', c', rfl, hc1, hc2, hown4, hb4⟩
      have HW4 := Lib.hid (HW3.out.trans (hb4.mono HW3.out.size))
      have HZ4 := Lib.hid (HZ.out.below hb4 HZ.out.lt)
      have hH4 := Hk2.out _ HW4.out
      refine hK.out _ _ (fun _ => hH4) ?_
      have HO4 := Lib.hid hown4
      have HC := Lib.hid (And.intro hc1 hc2)
      have hg73 := HZ.out.lt
      clear hK K hown4 hb4 hc1 hc2 hH3
      refine wpAnyT_take (i := 11) (oi := _) (v := ?_) rfl (by kernel_rfl) (fun _ _ _ h => h) (Or.inl ⟨by kernel_rfl, ?_⟩) (by assumption) ?_; rotate_left; (focus (intro w hSw; (try dsimp only at hSw); go_simp; (try with_reducible rfl))); (try simp only [Act.put, List.getElem_toArray, List.getElem_cons_zero, List.getElem_cons_succ, List.setIfInBounds_toArray, List.set_cons_zero, List.set_cons_succ])
      have x0 := HZ4.out.cell 0
      have x1 := HZ4.out.cell 1
      have x2 := HZ4.out.cell 2
      have x3 := HZ4.out.cell 3
      have y0 := HZ4.out.frozen 0
      have y1 := HZ4.out.frozen 1
      have y2 := HZ4.out.frozen 2
      have y3 := HZ4.out.frozen 3
      refine wpAnyT_one (i := 13) (by kernel_rfl) rfl (fun K hK => ?_); go_simp
      refine hK.out _ _ (fun h => absurd rfl h) (wpAnyT_done (by kernel_rfl) ?_ _)
      clear hK K
      have HF := Lib.hid (set4_blk (v0 := .string k) (v1 := .slice A' d.length c') (v2 := .int .i64 (R.ver + 1)) (v3 := .int .i64 R.now) HZ4.out)
      have hkf := set4_keep (w := w4) (F := fun i => i = g7) (b := g7) (o := 0) (v0 := .string k) (v1 := .slice A' d.length c') (v2 := .int .i64 (R.ver + 1)) (v3 := .int .i64 R.now) rfl
      have HNF := Lib.hid (newD_of (w := w3) (hkf.own HO4.out (fun i hi e => by omega)) (Nat.le_refl _) HC.out.1 HC.out.2)
      have HBF := Lib.hid (HW4.out.trans (hkf.below (B := w2.heap.size) HW4.out.size (fun i e => by omega)))
      unfold set4 at HF HBF HNF
      go_wp2
      go_meet
      case rel => exact ⟨g7, A', c', rfl, HF, Lib.hid HGL, Lib.hid (HNF.out.lo HW3.out.size), HBF⟩
  case rest =>
    obtain ⟨g7, A', c', rfl, HB7, HG7, HN7, HW7⟩ := hcut
    have HA7 := Lib.hid (HA2.out.below HW7.out)
    have HR7 := Lib.hid (HN7.out.rd HA2.out)
    have HB4' := Lib.hid (HB5.out.below HW7.out hs2)
    have hs7 := HW7.out.size
    have hgl7 := HG7.out
    have HIX := Lib.hid (idxF_spec (p := keyIs k) R.objs 0)
    have HPO : Hid (∀ AO cO, R.putO ⟨k, A', c', d, R.ver + 1, R.now⟩ AO cO = { R with ver := R.ver + 1, objs := putL R.objs (R.idxO k) ⟨k, A', c', d, R.ver + 1, R.now⟩, AO := AO, cO := cO }) := Lib.hid fun _ _ => rfl
    clear HA2 HB5 HD2 HG7 HK2
    have HAT : Hid (Calls Tryz.prog 23 #[.pointer (some ⟨R.g, 0, none⟩), .string k] wc fun e w' => e = .returned (.int .i64 (R.idxO k)) ∧ wc = w') := Lib.hid (at_calls wc HA7.out (Nat.le_trans hn (by omega)) k)
    have HRL := Lib.hid HA7.out.o_len
    go_wp2_with fail
    refine HAT.out.mono ?_
    rintro e w8 ⟨rfl, rfl⟩
    have z0 : wc.cell? ⟨R.g, 0, none⟩ = some (.slice R.AO R.objs.length R.cO) := HA7.out.blk.cell 0
    have m0 : wc.cell? ⟨g7, 0, none⟩ = some (.string k) := HB7.out.cell 0
    have m1 : wc.cell? ⟨g7, 1, none⟩ = some (.slice A' d.length c') := HB7.out.cell 1
    have m2 : wc.cell? ⟨g7, 2, none⟩ = some (.int .i64 (R.ver + 1)) := HB7.out.cell 2
    have m3 : wc.cell? ⟨g7, 3, none⟩ = some (.int .i64 R.now) := HB7.out.cell 3
    clear HAT
    rcases HIX.out with ⟨hi, hno⟩ | ⟨i, hil, hi, hp⟩
    · have hix : R.idxO k = -1 := hi
      rw [hix] at HPO ⊢
      clear HIX hi hix hno
      have d1 : decide ((0 : Int) ≤ -1) = false := by decide
      go_wp2
      clear d1
      go_loop [9] (fun i => ∃ j : Nat, j ≤ R.objs.length ∧ i = .int .i64 (j : Int) ∧ Hid (∀ q (hq : q < j) (hl : q < R.objs.length), ltS R.objs[q].key k = true)) (fun i => R.objs.length - (intOf i).toNat)
      case atStart => exact ⟨0, Nat.zero_le _, rfl, Lib.hid (fun q hq => absurd hq (by omega))⟩
      case round =>
        obtain ⟨n, hn', rfl, HN⟩ := hrel
        by_cases hlt : n < R.objs.length
        · have d1 : decide ((n : Int) < (R.objs.length : Int)) = true := dct (by omega)
          obtain ⟨b, off, e, hbB, hcell⟩ := o_at HA7.out.o_reads hlt
          have e0 : R.AO = some ⟨b, off, none⟩ := e
          have x0 := hcell 0 _ (by omega) rfl
          rw [Nat.add_zero] at x0
          have hi0 : (0 : Int) ≤ (n : Int) := by omega
          have hi1 : (n : Int) < (R.objs.length : Int) := by omega
          have HG := Lib.hid (go_eq hlt)
          rw [e0] at z0
          clear hcell e
          cases hk : ltS (go R.objs n).key k with
          | true =>
            have d2 : Op.bytesLess (go R.objs n).key.toList k.toList = true := by rw [← ltS_less]; exact hk
            have HN2 : Hid (∀ q (hq : q < n + 1) (hl : q < R.objs.length), ltS R.objs[q].key k = true) := Lib.hid fun q hq hl => by
              rcases Nat.lt_or_ge q n with h | h
              · exact HN.out q h hl
              · have : q = n := by omega
                subst this
                rw [HG.out]; exact hk
            clear hk
            generalize go R.objs n = y at *
            go_wp2
            go_round
            case rel => exact ⟨n + 1, by omega, by go_num, HN2⟩
            case measure => simp [intOf]; omega
          | false =>
            have d2 : Op.bytesLess (go R.objs n).key.toList k.toList = false := by rw [← ltS_less]; exact hk
            have HINS : Hid (insO ⟨k, A', c', d, R.ver + 1, R.now⟩ R.objs = R.objs.take n ++ ⟨k, A', c', d, R.ver + 1, R.now⟩ :: R.objs.drop n) := Lib.hid (insO_at ⟨k, A', c', d, R.ver + 1, R.now⟩ hn' HN.out (fun hl => by rw [HG.out]; exact hk))
            clear hk HN HG
            generalize go R.objs n = y at *
            go_upto_region 9 with fail
            clear z0
            try clear e0 x0
            have z0 : wc.cell? ⟨R.g, 0, none⟩ = some (.slice R.AO R.objs.length R.cO) := HA7.out.blk.cell 0
            have hic := HRL.out.1
            have hcm := HRL.out.2
            have HRD := Lib.hid HA7.out.o_reads
            have hgc := HA7.out.blk.lt
            have hn0 : (0 : Int) ≤ (n : Int) := by omega
            have hn1 : (n : Int) ≤ (R.objs.length : Int) := by omega
            have hn2 : (n : Int) ≤ (R.cO : Int) := by omega
            go_wp2_with (at_builtin; go_must (refine wpList_append_sl _ rfl (.tmp 64) (.tmp 70) _ rfl wc.heap.size 68 _ 4 56 Tryz.underlying26 Tryz.infoO rfl (by omega) _ _ _ rfl (World.ownsRow_made wc #[] 0 (Nat.le_refl _) (Nat.zero_le _) rfl) wc.heap.size _ n R.cO (oCells (R.objs.take n)) rfl (takeO_reads HRD.out hn') (o_one _) (by unfold maxLen; omega) (by omega) (by simp) ?_))
            intro A9 c9 w9 hc91 hc92 hrd9 hbel9 hown9 _ _
            have hown9' : w9.ownsRow wc.heap.size 68 4 (.slice A9 n c9) n (oCells (R.objs.take n)) := by simpa using hown9
            have hb9 : Below wc.heap.size wc w9 := ((Below.refl _ _).alloc (Nat.le_refl _) _).trans hbel9
            have hgc7 := HB7.out.lt
            have HM9 := Lib.hid (HB7.out.below hb9 hgc7)
            have hs9 := hb9.size
            have HO9 := Lib.hid hown9'
            have HW9 := Lib.hid hb9
            clear hown9 hown9' hrd9 hbel9 hb9 hc91 hc92 z0 m0 m1 m2 m3
            have n0 : w9.cell? ⟨g7, 0, none⟩ = some (.string k) := HM9.out.cell 0
            have n1 : w9.cell? ⟨g7, 1, none⟩ = some (.slice A' d.length c') := HM9.out.cell 1
            have n2 : w9.cell? ⟨g7, 2, none⟩ = some (.int .i64 (R.ver + 1)) := HM9.out.cell 2
            have n3 : w9.cell? ⟨g7, 3, none⟩ = some (.int .i64 R.now) := HM9.out.cell 3
            go_wp2_with (at_builtin; go_must (refine wpList_append_sl _ rfl (.tmp 72) (.tmp 74) _ rfl wc.heap.size 68 _ 4 56 Tryz.underlying26 Tryz.infoO rfl (by omega) _ _ _ rfl (HO9.out.alloc _) (w9.heap.size + 1) _ 1 1 (Ro.cells ⟨k, A', c', d, R.ver + 1, R.now⟩) rfl (Reads.made (n := 1) (size := 4) w9 _ _ rfl) (o_one' _) (by unfold maxLen; omega) (by omega) (by simp; omega) ?_))
            intro A10 c10 w10 hc101 hc102 hrd10 hbel10 hown10 _ _
            have hb10 : Below wc.heap.size wc w10 := (HW9.out.alloc hs9 _).trans hbel10
            have HO10 := Lib.hid hown10
            have HW10 := Lib.hid hb10
            have z0 : w10.cell? ⟨R.g, 0, none⟩ = some (.slice R.AO R.objs.length R.cO) := (HA7.out.blk.below hb10 hgc).cell 0
            have hrun := fun W => sliceO_at W R.AO R.objs.length R.cO n hn' hic
            have HCUT : Hid (Reads w10 wc.heap.size 4 (cutO R.AO R.cO n) (R.objs.length - n) (oCells (R.objs.drop n))) := Lib.hid ((dropO_reads HRD.out hn' hic).below hb10)
            have hs10 := hb10.size
            clear hown10 hrd10 hbel10 hb10 hc101 hc102 n0 n1 n2 n3 HM9
            generalize cutO R.AO R.cO n = AC at *
            go_wp2_with (at_builtin; go_must (refine wpList_append_sl _ rfl (.tmp 77) (.tmp 83) _ rfl wc.heap.size 68 _ 4 56 Tryz.underlying26 Tryz.infoO rfl (by omega) _ _ _ rfl HO10.out wc.heap.size AC (R.objs.length - n) (R.cO - n) (oCells (R.objs.drop n)) rfl HCUT.out (o_one _) (by unfold maxLen; omega) (by omega) (by omega) ?_))
            intro A11 c11 w11 hc111 hc112 hrd11 hbel11 hown11 _ _
            have hb11 : Below wc.heap.size wc w11 := HW10.out.trans hbel11
            have hll : (R.objs.take n ++ ⟨k, A', c', d, R.ver + 1, R.now⟩ :: R.objs.drop n : List Ro).length = R.objs.length + 1 := by rw [List.length_append, List.length_cons, List.length_take, List.length_drop]; omega
            have e11 : n + 1 + (R.objs.length - n) = R.objs.length + 1 := by omega
            have hoc : oCells (R.objs.take n) ++ (Ro.cells ⟨k, A', c', d, R.ver + 1, R.now⟩ ++ oCells (R.objs.drop n)) = oCells (R.objs.take n ++ ⟨k, A', c', d, R.ver + 1, R.now⟩ :: R.objs.drop n) := by unfold oCells; rw [List.flatMap_append, List.flatMap_cons]
            have hown12 : w11.ownsRow wc.heap.size 68 4 (.slice A11 (R.objs.take n ++ ⟨k, A', c', d, R.ver + 1, R.now⟩ :: R.objs.drop n : List Ro).length c11) (R.objs.take n ++ ⟨k, A', c', d, R.ver + 1, R.now⟩ :: R.objs.drop n : List Ro).length (oCells (R.objs.take n ++ ⟨k, A', c', d, R.ver + 1, R.now⟩ :: R.objs.drop n)) := by rw [hll, ← hoc, ← e11]; exact hown11
            rw [e11, ← hll]
            have HNO := Lib.hid (HA7.out.newO hb11 hown12 (fun x hx => by
              rcases List.mem_append.1 hx with h1 | h1
              · exact .inl (List.mem_of_mem_take h1)
              · rcases List.mem_cons.1 h1 with rfl | h1
                · exact .inr HR7.out
                · exact .inl (List.mem_of_mem_drop h1)))
            have hmem : ∀ x ∈ R.objs.take n ++ ⟨k, A', c', d, R.ver + 1, R.now⟩ :: R.objs.drop n, x = ⟨k, A', c', d, R.ver + 1, R.now⟩ ∨ x ∈ R.objs := fun x hx => by
              rcases List.mem_append.1 hx with h1 | h1
              · exact .inr (List.mem_of_mem_take h1)
              · rcases List.mem_cons.1 h1 with rfl | h1
                · exact .inl rfl
                · exact .inr (List.mem_of_mem_drop h1)
            have HMEM := Lib.hid hmem
            have HBS := Lib.hid (HA7.out.blk.below hb11 hgc)
            have HB11 := Lib.hid (HB4'.out.below hb11 HB4'.out.lt)
            have HM11 := Lib.hid (HB7.out.below hb11 hgc7)
            rw [← HINS.out] at HNO HMEM ⊢
            have HPL : Hid (putL R.objs (-1) ⟨k, A', c', d, R.ver + 1, R.now⟩ = insO ⟨k, A', c', d, R.ver + 1, R.now⟩ R.objs) := Lib.hid (if_pos (by decide))
            rw [HPL.out] at HPO
            clear hown11 hown12 hrd11 hbel11 hb11 hc111 hc112 hll e11 hoc hmem hrun z0 HINS HCUT
            generalize insO ⟨k, A', c', d, R.ver + 1, R.now⟩ R.objs = l' at *
            have z1 : w11.cell? ⟨R.g, 0, none⟩ = some (.slice R.AO R.objs.length R.cO) := HBS.out.cell 0
            have f1 := HBS.out.frozen 0
            go_upto_region 12 with fail
            clear z1 f1 HW9 HW10 HO9 HO10 HRD
            have HB9 := Lib.hid (HB11.out.far (p := ⟨R.g, 0, none⟩) (show gr ≠ R.g by omega) (.slice A11 l'.length c11))
            have hg7g : g7 ≠ R.g := by omega
            have HM9 := Lib.hid (HM11.out.far (p := ⟨R.g, 0, none⟩) hg7g (.slice A11 l'.length c11))
            have hno := HNO.out
            have HT9 := Lib.hid (Turn.put HW7.out HN7.out hno.1 hno.2.1 hno.2.2 rfl rfl HMEM.out)
            clear hno HNO HMEM HBS HB11 HM11
            generalize w11.setCell ⟨R.g, 0, none⟩ (.slice A11 l'.length c11) = wz at *
            have HT9' := HT9.out
            have HA9 := HT9'.at_
            clear HT9'
            have q0 : wz.cell? ⟨gr, 0, none⟩ = some (.int .i64 0) := HB9.out.cell 0
            have p0 : wz.frozen? ⟨gr, 0, none⟩ = false := HB9.out.frozen 0
            have q1 : wz.cell? ⟨gr, 1, none⟩ = some (.slice none 0 0) := HB9.out.cell 1
            have p1 : wz.frozen? ⟨gr, 1, none⟩ = false := HB9.out.frozen 1
            have q2 : wz.cell? ⟨gr, 2, none⟩ = some (.int .i64 0) := HB9.out.cell 2
            have p2 : wz.frozen? ⟨gr, 2, none⟩ = false := HB9.out.frozen 2
            have q3 : wz.cell? ⟨gr, 3, none⟩ = some (.int .i64 0) := HB9.out.cell 3
            have p3 : wz.frozen? ⟨gr, 3, none⟩ = false := HB9.out.frozen 3
            have q4 : wz.cell? ⟨gr, 4, none⟩ = some (.int .i64 0) := HB9.out.cell 4
            have p4 : wz.frozen? ⟨gr, 4, none⟩ = false := HB9.out.frozen 4
            have q5 : wz.cell? ⟨gr, 5, none⟩ = some (.slice none 0 0) := HB9.out.cell 5
            have p5 : wz.frozen? ⟨gr, 5, none⟩ = false := HB9.out.frozen 5
            have q6 : wz.cell? ⟨gr, 6, none⟩ = some (.bool false) := HB9.out.cell 6
            have p6 : wz.frozen? ⟨gr, 6, none⟩ = false := HB9.out.frozen 6
            have m2 : wz.cell? ⟨g7, 2, none⟩ = some (.int .i64 (R.ver + 1)) := HM9.out.cell 2
            have m3 : wz.cell? ⟨g7, 3, none⟩ = some (.int .i64 R.now) := HM9.out.cell 3
            go_wp2
            have hw := set7_blk (v0 := .int .i64 0) (v1 := .slice none 0 0) (v2 := .int .i64 (R.ver + 1)) (v3 := .int .i64 R.now) (v4 := .int .i64 0) (v5 := .slice none 0 0) (v6 := .bool false) HB9.out
            have hk := set7_keep (w := wz) (g := gr) (v0 := .int .i64 0) (v1 := .slice none 0 0) (v2 := .int .i64 (R.ver + 1)) (v3 := .int .i64 R.now) (v4 := .int .i64 0) (v5 := .slice none 0 0) (v6 := .bool false)
            have hT := HT2.out.res HT9.out (Nat.le_of_eq hgr) hs2 HF2.out HAD2.out hk
            unfold set7 at hw hT
            refine bodyPost_ret (results_cell_row rfl _ _ gr 43 #[.int .i64 0, .slice none 0 0, .int .i64 (R.ver + 1), .int .i64 R.now, .int .i64 0, .slice none 0 0, .bool false] (0, 0) _ rfl hw Tryz.underlying43 rfl (by kernel_rfl)) rfl ?_
            exact ⟨rfl, A', c', _, _, by rw [HPO.out]; exact hT⟩
        · have d1 : decide ((n : Int) < (R.objs.length : Int)) = false := dcf (by omega)
          have HINS : Hid (insO ⟨k, A', c', d, R.ver + 1, R.now⟩ R.objs = R.objs.take n ++ ⟨k, A', c', d, R.ver + 1, R.now⟩ :: R.objs.drop n) := Lib.hid (insO_at ⟨k, A', c', d, R.ver + 1, R.now⟩ hn' HN.out (fun hl => absurd hl hlt))
          clear HN
          go_upto_region 9 with fail
          clear z0
          try clear e0 x0
          have z0 : wc.cell? ⟨R.g, 0, none⟩ = some (.slice R.AO R.objs.length R.cO) := HA7.out.blk.cell 0
          have hic := HRL.out.1
          have hcm := HRL.out.2
          have HRD := Lib.hid HA7.out.o_reads
          have hgc := HA7.out.blk.lt
          have hn0 : (0 : Int) ≤ (n : Int) := by omega
          have hn1 : (n : Int) ≤ (R.objs.length : Int) := by omega
          have hn2 : (n : Int) ≤ (R.cO : Int) := by omega
          go_wp2_with (at_builtin; go_must (refine wpList_append_sl _ rfl (.tmp 64) (.tmp 70) _ rfl wc.heap.size 68 _ 4 56 Tryz.underlying26 Tryz.infoO rfl (by omega) _ _ _ rfl (World.ownsRow_made wc #[] 0 (Nat.le_refl _) (Nat.zero_le _) rfl) wc.heap.size _ n R.cO (oCells (R.objs.take n)) rfl (takeO_reads HRD.out hn') (o_one _) (by unfold maxLen; omega) (by omega) (by simp) ?_))
          intro A9 c9 w9 hc91 hc92 hrd9 hbel9 hown9 _ _
          have hown9' : w9.ownsRow wc.heap.size 68 4 (.slice A9 n c9) n (oCells (R.objs.take n)) := by simpa using hown9
          have hb9 : Below wc.heap.size wc w9 := ((Below.refl _ _).alloc (Nat.le_refl _) _).trans hbel9
          have hgc7 := HB7.out.lt
          have HM9 := Lib.hid (HB7.out.below hb9 hgc7)
          have hs9 := hb9.size
          have HO9 := Lib.hid hown9'
          have HW9 := Lib.hid hb9
          clear hown9 hown9' hrd9 hbel9 hb9 hc91 hc92 z0 m0 m1 m2 m3
          have n0 : w9.cell? ⟨g7, 0, none⟩ = some (.string k) := HM9.out.cell 0
          have n1 : w9.cell? ⟨g7, 1, none⟩ = some (.slice A' d.length c') := HM9.out.cell 1
          have n2 : w9.cell? ⟨g7, 2, none⟩ = some (.int .i64 (R.ver + 1)) := HM9.out.cell 2
          have n3 : w9.cell? ⟨g7, 3, none⟩ = some (.int .i64 R.now) := HM9.out.cell 3
          go_wp2_with (at_builtin; go_must (refine wpList_append_sl _ rfl (.tmp 72) (.tmp 74) _ rfl wc.heap.size 68 _ 4 56 Tryz.underlying26 Tryz.infoO rfl (by omega) _ _ _ rfl (HO9.out.alloc _) (w9.heap.size + 1) _ 1 1 (Ro.cells ⟨k, A', c', d, R.ver + 1, R.now⟩) rfl (Reads.made (n := 1) (size := 4) w9 _ _ rfl) (o_one' _) (by unfold maxLen; omega) (by omega) (by simp; omega) ?_))
          intro A10 c10 w10 hc101 hc102 hrd10 hbel10 hown10 _ _
          have hb10 : Below wc.heap.size wc w10 := (HW9.out.alloc hs9 _).trans hbel10
          have HO10 := Lib.hid hown10
          have HW10 := Lib.hid hb10
          have z0 : w10.cell? ⟨R.g, 0, none⟩ = some (.slice R.AO R.objs.length R.cO) := (HA7.out.blk.below hb10 hgc).cell 0
          have hrun := fun W => sliceO_at W R.AO R.objs.length R.cO n hn' hic
          have HCUT : Hid (Reads w10 wc.heap.size 4 (cutO R.AO R.cO n) (R.objs.length - n) (oCells (R.objs.drop n))) := Lib.hid ((dropO_reads HRD.out hn' hic).below hb10)
          have hs10 := hb10.size
          clear hown10 hrd10 hbel10 hb10 hc101 hc102 n0 n1 n2 n3 HM9
          generalize cutO R.AO R.cO n = AC at *
          go_wp2_with (at_builtin; go_must (refine wpList_append_sl _ rfl (.tmp 77) (.tmp 83) _ rfl wc.heap.size 68 _ 4 56 Tryz.underlying26 Tryz.infoO rfl (by omega) _ _ _ rfl HO10.out wc.heap.size AC (R.objs.length - n) (R.cO - n) (oCells (R.objs.drop n)) rfl HCUT.out (o_one _) (by unfold maxLen; omega) (by omega) (by omega) ?_))
          intro A11 c11 w11 hc111 hc112 hrd11 hbel11 hown11 _ _
          have hb11 : Below wc.heap.size wc w11 := HW10.out.trans hbel11
          have hll : (R.objs.take n ++ ⟨k, A', c', d, R.ver + 1, R.now⟩ :: R.objs.drop n : List Ro).length = R.objs.length + 1 := by rw [List.length_append, List.length_cons, List.length_take, List.length_drop]; omega
          have e11 : n + 1 + (R.objs.length - n) = R.objs.length + 1 := by omega
          have hoc : oCells (R.objs.take n) ++ (Ro.cells ⟨k, A', c', d, R.ver + 1, R.now⟩ ++ oCells (R.objs.drop n)) = oCells (R.objs.take n ++ ⟨k, A', c', d, R.ver + 1, R.now⟩ :: R.objs.drop n) := by unfold oCells; rw [List.flatMap_append, List.flatMap_cons]
          have hown12 : w11.ownsRow wc.heap.size 68 4 (.slice A11 (R.objs.take n ++ ⟨k, A', c', d, R.ver + 1, R.now⟩ :: R.objs.drop n : List Ro).length c11) (R.objs.take n ++ ⟨k, A', c', d, R.ver + 1, R.now⟩ :: R.objs.drop n : List Ro).length (oCells (R.objs.take n ++ ⟨k, A', c', d, R.ver + 1, R.now⟩ :: R.objs.drop n)) := by rw [hll, ← hoc, ← e11]; exact hown11
          rw [e11, ← hll]
          have HNO := Lib.hid (HA7.out.newO hb11 hown12 (fun x hx => by
            rcases List.mem_append.1 hx with h1 | h1
            · exact .inl (List.mem_of_mem_take h1)
            · rcases List.mem_cons.1 h1 with rfl | h1
              · exact .inr HR7.out
              · exact .inl (List.mem_of_mem_drop h1)))
          have hmem : ∀ x ∈ R.objs.take n ++ ⟨k, A', c', d, R.ver + 1, R.now⟩ :: R.objs.drop n, x = ⟨k, A', c', d, R.ver + 1, R.now⟩ ∨ x ∈ R.objs := fun x hx => by
            rcases List.mem_append.1 hx with h1 | h1
            · exact .inr (List.mem_of_mem_take h1)
            · rcases List.mem_cons.1 h1 with rfl | h1
              · exact .inl rfl
              · exact .inr (List.mem_of_mem_drop h1)
          have HMEM := Lib.hid hmem
          have HBS := Lib.hid (HA7.out.blk.below hb11 hgc)
          have HB11 := Lib.hid (HB4'.out.below hb11 HB4'.out.lt)
          have HM11 := Lib.hid (HB7.out.below hb11 hgc7)
          rw [← HINS.out] at HNO HMEM ⊢
          have HPL : Hid (putL R.objs (-1) ⟨k, A', c', d, R.ver + 1, R.now⟩ = insO ⟨k, A', c', d, R.ver + 1, R.now⟩ R.objs) := Lib.hid (if_pos (by decide))
          rw [HPL.out] at HPO
          clear hown11 hown12 hrd11 hbel11 hb11 hc111 hc112 hll e11 hoc hmem hrun z0 HINS HCUT
          generalize insO ⟨k, A', c', d, R.ver + 1, R.now⟩ R.objs = l' at *
          have z1 : w11.cell? ⟨R.g, 0, none⟩ = some (.slice R.AO R.objs.length R.cO) := HBS.out.cell 0
          have f1 := HBS.out.frozen 0
          go_upto_region 12 with fail
          clear z1 f1 HW9 HW10 HO9 HO10 HRD
          have HB9 := Lib.hid (HB11.out.far (p := ⟨R.g, 0, none⟩) (show gr ≠ R.g by omega) (.slice A11 l'.length c11))
          have hg7g : g7 ≠ R.g := by omega
          have HM9 := Lib.hid (HM11.out.far (p := ⟨R.g, 0, none⟩) hg7g (.slice A11 l'.length c11))
          have hno := HNO.out
          have HT9 := Lib.hid (Turn.put HW7.out HN7.out hno.1 hno.2.1 hno.2.2 rfl rfl HMEM.out)
          clear hno HNO HMEM HBS HB11 HM11
          generalize w11.setCell ⟨R.g, 0, none⟩ (.slice A11 l'.length c11) = wz at *
          have HT9' := HT9.out
          have HA9 := HT9'.at_
          clear HT9'
          have q0 : wz.cell? ⟨gr, 0, none⟩ = some (.int .i64 0) := HB9.out.cell 0
          have p0 : wz.frozen? ⟨gr, 0, none⟩ = false := HB9.out.frozen 0
          have q1 : wz.cell? ⟨gr, 1, none⟩ = some (.slice none 0 0) := HB9.out.cell 1
          have p1 : wz.frozen? ⟨gr, 1, none⟩ = false := HB9.out.frozen 1
          have q2 : wz.cell? ⟨gr, 2, none⟩ = some (.int .i64 0) := HB9.out.cell 2
          have p2 : wz.frozen? ⟨gr, 2, none⟩ = false := HB9.out.frozen 2
          have q3 : wz.cell? ⟨gr, 3, none⟩ = some (.int .i64 0) := HB9.out.cell 3
          have p3 : wz.frozen? ⟨gr, 3, none⟩ = false := HB9.out.frozen 3
          have q4 : wz.cell? ⟨gr, 4, none⟩ = some (.int .i64 0) := HB9.out.cell 4
          have p4 : wz.frozen? ⟨gr, 4, none⟩ = false := HB9.out.frozen 4
          have q5 : wz.cell? ⟨gr, 5, none⟩ = some (.slice none 0 0) := HB9.out.cell 5
          have p5 : wz.frozen? ⟨gr, 5, none⟩ = false := HB9.out.frozen 5
          have q6 : wz.cell? ⟨gr, 6, none⟩ = some (.bool false) := HB9.out.cell 6
          have p6 : wz.frozen? ⟨gr, 6, none⟩ = false := HB9.out.frozen 6
          have m2 : wz.cell? ⟨g7, 2, none⟩ = some (.int .i64 (R.ver + 1)) := HM9.out.cell 2
          have m3 : wz.cell? ⟨g7, 3, none⟩ = some (.int .i64 R.now) := HM9.out.cell 3
          go_wp2
          have hw := set7_blk (v0 := .int .i64 0) (v1 := .slice none 0 0) (v2 := .int .i64 (R.ver + 1)) (v3 := .int .i64 R.now) (v4 := .int .i64 0) (v5 := .slice none 0 0) (v6 := .bool false) HB9.out
          have hk := set7_keep (w := wz) (g := gr) (v0 := .int .i64 0) (v1 := .slice none 0 0) (v2 := .int .i64 (R.ver + 1)) (v3 := .int .i64 R.now) (v4 := .int .i64 0) (v5 := .slice none 0 0) (v6 := .bool false)
          have hT := HT2.out.res HT9.out (Nat.le_of_eq hgr) hs2 HF2.out HAD2.out hk
          unfold set7 at hw hT
          refine bodyPost_ret (results_cell_row rfl _ _ gr 43 #[.int .i64 0, .slice none 0 0, .int .i64 (R.ver + 1), .int .i64 R.now, .int .i64 0, .slice none 0 0, .bool false] (0, 0) _ rfl hw Tryz.underlying43 rfl (by kernel_rfl)) rfl ?_
          exact ⟨rfl, A', c', _, _, by rw [HPO.out]; exact hT⟩
    · have hix : R.idxO k = (i : Int) := by unfold RS.idxO; rw [hi, Nat.zero_add]
      rw [hix] at HPO ⊢
      clear HIX hi hix
      obtain ⟨b, e, hbb, hbl⟩ := own_form HA7.out.ro (Nat.lt_of_le_of_lt (Nat.zero_le _) hil)
      have hro := HA7.out.ro
      unfold RS.oV at hro
      rw [e] at hro
      have hil4 : i * 4 + 3 < R.objs.length * 4 := by omega
      have e0 : R.AO = some ⟨b, 0, none⟩ := e
      have hcell : ∀ j, j < 4 → ∃ u, wc.cell? ⟨b, i * 4 + j, none⟩ = some u := fun j hj => by
        rw [hro.cellAt (i * 4 + j) (by show _ < R.objs.length * 4; omega)]
        have hl : i * 4 + j < (oCells R.objs).length := by rw [hro.1]; show _ < R.objs.length * 4; omega
        exact ⟨_, List.getElem?_eq_getElem hl⟩
      obtain ⟨u0, x0⟩ := hcell 0 (by omega)
      obtain ⟨u1, x1⟩ := hcell 1 (by omega)
      obtain ⟨u2, x2⟩ := hcell 2 (by omega)
      obtain ⟨u3, x3⟩ := hcell 3 (by omega)
      rw [Nat.add_zero] at x0
      have y0 := hro.frozenAt (i * 4)
      have y1 := hro.frozenAt (i * 4 + 1)
      have y2 := hro.frozenAt (i * 4 + 2)
      have y3 := hro.frozenAt (i * 4 + 3)
      have d1 : decide ((0 : Int) ≤ (i : Int)) = true := dct (by omega)
      have d2 : (0 : Int) ≤ (i : Int) := by omega
      have d3 : (i : Int) < (R.objs.length : Int) := by omega
      rw [e0] at z0
      have HSO := Lib.hid (HA7.out.setO e0 hil (o := ⟨k, A', c', d, R.ver + 1, R.now⟩) HR7.out)
      clear hro hcell
      go_wp2_with fail
      go_still_tail 7, (by kernel_rfl)
      go_upto_region 12 with fail
      clear x0 x1 x2 x3 y0 y1 y2 y3 z0 m0 m1 m2 m3
      have hbg : b ≠ gr := fun e' => HF2.out b (.inr (.inl (by show (Value.slice R.AO _ _).ownBlock = _; rw [e0]; rfl))) e'
      have hb7 : b ≠ g7 := by
        have h1 := HF2.out
        have h2 : R.oV.ownBlock = some b := by unfold RS.oV; rw [e0]; rfl
        have h3 := hgr ▸ HA0.out.foot_lt (.inr (.inl h2))
        omega
      have hkb := set4_keep (w := wc) (F := fun i => i = b) (b := b) (o := i * 4) (v0 := .string k) (v1 := .slice A' d.length c') (v2 := .int .i64 (R.ver + 1)) (v3 := .int .i64 R.now) rfl
      have HB9 := Lib.hid (hkb.blk HB4'.out (fun e => hbg e.symm)).drew
      have HM9 := Lib.hid (hkb.blk HB7.out (fun e => hb7 e.symm)).drew
      have hso := HSO.out
      have HT9 := Lib.hid (Turn.put HW7.out HN7.out hso.1 hso.2.1 hso.2.2 rfl rfl (fun x hx => (List.mem_or_eq_of_mem_set hx).symm)).drew
      have hpl : putL R.objs (i : Int) ⟨k, A', c', d, R.ver + 1, R.now⟩ = R.objs.set i ⟨k, A', c', d, R.ver + 1, R.now⟩ := by unfold putL; rw [if_neg (by omega)]; rfl
      rw [hpl] at HPO
      unfold set4 at HB9 HM9 HT9
      clear hkb hso HSO
      generalize ((((wc.setCell ⟨b, i * 4, none⟩ (.string k)).setCell ⟨b, i * 4 + 1, none⟩ (.slice A' d.length c')).setCell ⟨b, i * 4 + 2, none⟩ (.int .i64 (R.ver + 1))).setCell ⟨b, i * 4 + 3, none⟩ (.int .i64 R.now)).drew = w9 at *
      have HT9' := HT9.out
      have HA9 := HT9'.at_
      clear HT9'
      have q0 : w9.cell? ⟨gr, 0, none⟩ = some (.int .i64 0) := HB9.out.cell 0
      have p0 : w9.frozen? ⟨gr, 0, none⟩ = false := HB9.out.frozen 0
      have q1 : w9.cell? ⟨gr, 1, none⟩ = some (.slice none 0 0) := HB9.out.cell 1
      have p1 : w9.frozen? ⟨gr, 1, none⟩ = false := HB9.out.frozen 1
      have q2 : w9.cell? ⟨gr, 2, none⟩ = some (.int .i64 0) := HB9.out.cell 2
      have p2 : w9.frozen? ⟨gr, 2, none⟩ = false := HB9.out.frozen 2
      have q3 : w9.cell? ⟨gr, 3, none⟩ = some (.int .i64 0) := HB9.out.cell 3
      have p3 : w9.frozen? ⟨gr, 3, none⟩ = false := HB9.out.frozen 3
      have q4 : w9.cell? ⟨gr, 4, none⟩ = some (.int .i64 0) := HB9.out.cell 4
      have p4 : w9.frozen? ⟨gr, 4, none⟩ = false := HB9.out.frozen 4
      have q5 : w9.cell? ⟨gr, 5, none⟩ = some (.slice none 0 0) := HB9.out.cell 5
      have p5 : w9.frozen? ⟨gr, 5, none⟩ = false := HB9.out.frozen 5
      have q6 : w9.cell? ⟨gr, 6, none⟩ = some (.bool false) := HB9.out.cell 6
      have p6 : w9.frozen? ⟨gr, 6, none⟩ = false := HB9.out.frozen 6
      have m2 : w9.cell? ⟨g7, 2, none⟩ = some (.int .i64 (R.ver + 1)) := HM9.out.cell 2
      have m3 : w9.cell? ⟨g7, 3, none⟩ = some (.int .i64 R.now) := HM9.out.cell 3
      go_wp2
      have hw := set7_blk (v0 := .int .i64 0) (v1 := .slice none 0 0) (v2 := .int .i64 (R.ver + 1)) (v3 := .int .i64 R.now) (v4 := .int .i64 0) (v5 := .slice none 0 0) (v6 := .bool false) HB9.out
      have hk := set7_keep (w := w9) (g := gr) (v0 := .int .i64 0) (v1 := .slice none 0 0) (v2 := .int .i64 (R.ver + 1)) (v3 := .int .i64 R.now) (v4 := .int .i64 0) (v5 := .slice none 0 0) (v6 := .bool false)
      have hT := HT2.out.res HT9.out (Nat.le_of_eq hgr) hs2 HF2.out HAD2.out hk
      unfold set7 at hw hT
      refine bodyPost_ret (results_cell_row rfl _ _ gr 43 #[.int .i64 0, .slice none 0 0, .int .i64 (R.ver + 1), .int .i64 R.now, .int .i64 0, .slice none 0 0, .bool false] (0, 0) _ rfl hw Tryz.underlying43 rfl (by kernel_rfl)) rfl ?_
      exact ⟨rfl, A', c', _, _, by rw [HPO.out]; exact hT⟩
end Rf
end Go.Proofs.YtlljpjehalodfaaGreat
