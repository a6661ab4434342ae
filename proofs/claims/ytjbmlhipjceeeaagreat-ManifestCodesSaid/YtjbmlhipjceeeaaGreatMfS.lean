/- slices.Clone at marks and owners; a manifest handed back; manifests in memory of the call's own (chapter 13). -/
import Derived.Test.YtjbmlhipjceeeaaGreatProg
import Derived.Test.YtjbmlhipjceeeaaGreatMfP
import Derived.Test.YtjbmlhipjceeeaaGreatPut
import Derived.Lib.SliceRun
namespace Go.Proofs.YtjbmlhipjceeeaaGreat.Mf
set_option linter.unusedVariables false
set_option linter.unusedSimpArgs false
open Go.RowKit Go.Proofs.YtjbmlhipjceeeaaGreat

theorem Tryz.infoEn : (Tryz.prog.info? 42).map (fun i => (i.zero, i.size, i.bytes)) = some (some (.agg #[.string ⟨#[]⟩, .int .i64 0, .string ⟨#[]⟩, .int .i64 0, .int .i64 0, .int .i64 0, .int .i64 0, .int .u32 0, .int .i64 0]), 9, 88) := by kernel_rfl
set_option maxRecDepth 100000 in
theorem cloneM_calls (w : World) {B c : Nat} {A : Option Addr} {l : List Mk} (h : Reads w B 2 A l.length (l.flatMap Mk.cs)) (hB : B ≤ w.heap.size) (hn : l.length ≤ 1099511627776) :
    Calls Tryz.prog 30 #[.slice A l.length c] w fun e w' => ∃ A' c', e = .returned (.slice A' l.length c') ∧ w'.ownsRow w.heap.size 44 2 (.slice A' l.length c') l.length (l.flatMap Mk.cs) ∧ Below w.heap.size w w' := by
  have hq := fun W => Lib.run_eql_slice_nil (P := Tryz.prog) W 23 44 A l.length c 0 0 Tryz.underlying23
  rcases A with _ | ad
  · have hl : l = [] := by
      rcases Nat.eq_zero_or_pos l.length with h0 | h0
      · exact List.eq_nil_of_length_eq_zero h0
      · obtain ⟨b, off, e, _⟩ := h.2 h0
        cases e
    have HL := Lib.hid hl
    clear hl
    have hq2 : ∀ W, (binOp .eql 23 (.slice none l.length c) (.slice none 0 0)).run Tryz.prog W = .ok (.bool true) W := fun W => by rw [hq]; rfl
    clear hq
    go_enter Tryz.func30, Tryz.ntmps30
    go_wp2
    go_ret
    exact ⟨none, 0, by rw [HL.out]; rfl, by rw [HL.out]; exact World.ownsRow_nil _ _ _ _, Below.refl _ _⟩
  · have hq2 : ∀ W, (binOp .eql 23 (.slice (some ad) l.length c) (.slice none 0 0)).run Tryz.prog W = .ok (.bool false) W := fun W => by rw [hq]; rfl
    clear hq
    go_enter Tryz.func30, Tryz.ntmps30
    go_wp2_with (at_builtin; go_must (refine wpList_append_sl _ rfl (.tmp 5) (.tmp 6) _ rfl w.heap.size 44 _ 2 16 Tryz.underlying23 Tryz.infoMk rfl (by omega) _ _ _ rfl (World.ownsRow_made w #[] 0 (Nat.le_refl _) (Nat.zero_le _) rfl) B (some ad) l.length c (l.flatMap Mk.cs) rfl (Reads.to h ((Below.refl B w).alloc hB _) (Nat.le_refl _)) (mcs_one l) (by unfold maxLen; omega) (by omega) (by simp) ?_))
    intro A' c' w1 hc1 hc2 hrd hbel hown _ _
    have hown2 : w1.ownsRow w.heap.size 44 2 (.slice A' l.length c') l.length (l.flatMap Mk.cs) := by simpa using hown
    go_wp2
    go_ret
    exact ⟨A', c', by simp, hown2, ((Below.refl _ _).alloc (Nat.le_refl _) _).trans hbel⟩
set_option maxRecDepth 100000 in
theorem cloneO_calls (w : World) {B c : Nat} {A : Option Addr} {l : List Ow} (h : Reads w B 3 A l.length (l.flatMap Ow.cs)) (hB : B ≤ w.heap.size) (hn : l.length ≤ 1099511627776) :
    Calls Tryz.prog 34 #[.slice A l.length c] w fun e w' => ∃ A' c', e = .returned (.slice A' l.length c') ∧ w'.ownsRow w.heap.size 29 3 (.slice A' l.length c') l.length (l.flatMap Ow.cs) ∧ Below w.heap.size w w' := by
  have hq := fun W => Lib.run_eql_slice_nil (P := Tryz.prog) W 24 29 A l.length c 0 0 Tryz.underlying24
  rcases A with _ | ad
  · have hl : l = [] := by
      rcases Nat.eq_zero_or_pos l.length with h0 | h0
      · exact List.eq_nil_of_length_eq_zero h0
      · obtain ⟨b, off, e, _⟩ := h.2 h0
        cases e
    have HL := Lib.hid hl
    clear hl
    have hq2 : ∀ W, (binOp .eql 24 (.slice none l.length c) (.slice none 0 0)).run Tryz.prog W = .ok (.bool true) W := fun W => by rw [hq]; rfl
    clear hq
    go_enter Tryz.func34, Tryz.ntmps34
    go_wp2
    go_ret
    exact ⟨none, 0, by rw [HL.out]; rfl, by rw [HL.out]; exact World.ownsRow_nil _ _ _ _, Below.refl _ _⟩
  · have hq2 : ∀ W, (binOp .eql 24 (.slice (some ad) l.length c) (.slice none 0 0)).run Tryz.prog W = .ok (.bool false) W := fun W => by rw [hq]; rfl
    clear hq
    go_enter Tryz.func34, Tryz.ntmps34
    go_wp2_with (at_builtin; go_must (refine wpList_append_sl _ rfl (.tmp 5) (.tmp 6) _ rfl w.heap.size 29 _ 3 24 Tryz.underlying24 Tryz.infoOw rfl (by omega) _ _ _ rfl (World.ownsRow_made w #[] 0 (Nat.le_refl _) (Nat.zero_le _) rfl) B (some ad) l.length c (l.flatMap Ow.cs) rfl (Reads.to h ((Below.refl B w).alloc hB _) (Nat.le_refl _)) (ocs_one l) (by unfold maxLen; omega) (by omega) (by simp) ?_))
    intro A' c' w1 hc1 hc2 hrd hbel hown _ _
    have hown2 : w1.ownsRow w.heap.size 29 3 (.slice A' l.length c') l.length (l.flatMap Ow.cs) := by simpa using hown
    go_wp2
    go_ret
    exact ⟨A', c', by simp, hown2, ((Below.refl _ _).alloc (Nat.le_refl _) _).trans hbel⟩

/-! ### a result that is read out of a block -/
theorem results_mf {P : Program} {fn : Func} {p u : Tmp} {ty : TypeId} (h : fn.results = #[.cell p ty, .tmp u]) (tmps : Array Value) (w : World) (g : Nat) (t : TypeId) (cs : Array Value) (d : TypeDesc) (q : Value)
    (hp : tmps.getD p undef = .pointer (some ⟨g, 0, none⟩)) (hq : tmps.getD u undef = q) (hg : Blk w g t cs)
    (hu : P.underlying ty = some d) (hd : (match d with | .struct _ | .array _ _ => true | _ => false) = true) (hi : (P.info? ty).map (·.size) = some cs.size) :
    (results fn tmps).run P w = .ok (.tuple #[.agg cs, q]) w := by
  rw [results_cell_tmp h, hp, hq]
  have : (asAddr (.pointer (some ⟨g, 0, none⟩))).run P w = .ok ⟨g, 0, none⟩ w := by simp [asAddr]
  rw [this, Result.andThen_ok, run_loadVar_row w g t ty cs (0, 0) d hg hu hd hi, Result.andThen_ok]
/-- Six cells written one behind the other. -/
def set6 (w : World) (g : Nat) (v0 v1 v2 v3 v4 v5 : Value) : World := (((((w.setCell ⟨g, 0, none⟩ v0).setCell ⟨g, 1, none⟩ v1).setCell ⟨g, 2, none⟩ v2).setCell ⟨g, 3, none⟩ v3).setCell ⟨g, 4, none⟩ v4).setCell ⟨g, 5, none⟩ v5
theorem set6_blk {w : World} {g : Nat} {t : TypeId} {a0 a1 a2 a3 a4 a5 : Value} (h : Blk w g t #[a0, a1, a2, a3, a4, a5]) (v0 v1 v2 v3 v4 v5 : Value) : Blk (set6 w g v0 v1 v2 v3 v4 v5) g t #[v0, v1, v2, v3, v4, v5] := by
  have := (((((h.set_ 0 v0).set_ 1 v1).set_ 2 v2).set_ 3 v3).set_ 4 v4).set_ 5 v5
  simpa [set6] using this
theorem set6_below {a w : World} {B g : Nat} (h : Below B a w) (hB : B ≤ g) (v0 v1 v2 v3 v4 v5 : Value) : Below B a (set6 w g v0 v1 v2 v3 v4 v5) :=
  (((((h.setCell (p := ⟨g, 0, none⟩) hB v0).setCell (p := ⟨g, 1, none⟩) hB v1).setCell (p := ⟨g, 2, none⟩) hB v2).setCell (p := ⟨g, 3, none⟩) hB v3).setCell (p := ⟨g, 4, none⟩) hB v4).setCell (p := ⟨g, 5, none⟩) hB v5
theorem set6_size (w : World) (g : Nat) (v0 v1 v2 v3 v4 v5 : Value) : (set6 w g v0 v1 v2 v3 v4 v5).heap.size = w.heap.size := by simp [set6]
theorem set6_alloc {a w : World} {B g : Nat} (h : Below B a w) (hB : B ≤ g) (hs : B ≤ w.heap.size) (v0 v1 v2 v3 v4 v5 : Value) (o : Obj) : Below B a ((set6 w g v0 v1 v2 v3 v4 v5).alloc o) :=
  (set6_below h hB v0 v1 v2 v3 v4 v5).alloc (by rw [set6_size]; exact hs) o
theorem set6_only {a w : World} {g : Nat} (h : Only g a w) (v0 v1 v2 v3 v4 v5 : Value) : Only g a (set6 w g v0 v1 v2 v3 v4 v5) :=
  (((((h.setCell (p := ⟨g, 0, none⟩) (.inl rfl) v0).setCell (p := ⟨g, 1, none⟩) (.inl rfl) v1).setCell (p := ⟨g, 2, none⟩) (.inl rfl) v2).setCell (p := ⟨g, 3, none⟩) (.inl rfl) v3).setCell (p := ⟨g, 4, none⟩) (.inl rfl) v4).setCell (p := ⟨g, 5, none⟩) (.inl rfl) v5

/-! ### manifests in memory of the call's own -/
structure Mow (w : World) (base : Nat) (m : Md) (p : Pl) : Prop where
  oe : w.ownsRow base 42 9 (.slice p.AE m.E.length p.cE) m.E.length (m.E.flatMap En.cs)
  om : w.ownsRow base 44 2 (.slice p.AM m.M.length p.cM) m.M.length (m.M.flatMap Mk.cs)
  oo : w.ownsRow base 29 3 (.slice p.AO m.O.length p.cO) m.O.length (m.O.flatMap Ow.cs)
theorem own_capn {w : World} {base n size : Nat} {e : TypeId} {A : Option Addr} {c : Nat} {xs : List Value} (h : w.ownsRow base e size (.slice A n c) n xs) : n ≤ c := by
  rcases own_form h with ⟨_, h0, _⟩ | ⟨_, _, h⟩
  · omega
  · exact h
theorem Mow.man {w : World} {base : Nat} {m : Md} {p : Pl} (h : Mow w base m p) (hE : m.E.length ≤ 17592186044416) (hM : m.M.length ≤ 17592186044416) (hO : m.O.length ≤ 17592186044416) (hok : ∀ x ∈ m.E, x.Ok) : Man w w.heap.size m p :=
  ⟨Reads.of_own h.oe, Reads.of_own h.om, Reads.of_own h.oo, hE, hM, hO, own_capn h.oe, own_capn h.om, own_capn h.oo, hok⟩
theorem Mow.below {w w' : World} {base : Nat} {m : Md} {p : Pl} (h : Mow w base m p) (hb : Below w.heap.size w w') : Mow w' base m p := ⟨own_below h.oe hb, own_below h.om hb, own_below h.oo hb⟩
theorem own_mono {w : World} {b1 b2 : Nat} {e : TypeId} {size n : Nat} {v : Value} {xs : List Value} (h : w.ownsRow b1 e size v n xs) (hb : b2 ≤ b1) : w.ownsRow b2 e size v n xs := by
  refine ⟨h.1, ?_⟩
  rcases h.2 with h0 | ⟨g, cap, cur, hv, hbg, rest⟩
  · exact .inl h0
  · exact .inr ⟨g, cap, cur, hv, Nat.le_trans hb hbg, rest⟩
theorem Mow.mono {w : World} {b1 b2 : Nat} {m : Md} {p : Pl} (h : Mow w b1 m p) (hb : b2 ≤ b1) : Mow w b2 m p := ⟨own_mono h.oe hb, own_mono h.om hb, own_mono h.oo hb⟩
def nilP : Pl := ⟨none, 0, none, 0, none, 0⟩
theorem Mow.zero (w : World) (base : Nat) : Mow w base zeroM nilP := ⟨World.ownsRow_nil _ _ _ _, World.ownsRow_nil _ _ _ _, World.ownsRow_nil _ _ _ _⟩
/-- What Apply hands back. -/
noncomputable def appM (m : Md) (d : Ed) : Md := if appE m d = 0 then appl m d else zeroM
def RetAp (w : World) (M : Md) (err : Int) (e : Ending) (w' : World) : Prop := ∃ pz, e = .returned (.tuple #[mdV M pz, .int .i64 err]) ∧ Mow w' w.heap.size M pz ∧ Below w.heap.size w w'
theorem ret_err {w w' : World} {m : Md} {d : Ed} {n : Int} (h : appE m d = n) (hn : n ≠ 0) (hb : Below w.heap.size w w') : RetAp w (appM m d) (appE m d) (.returned (.tuple #[.agg #[.int .i64 0, .int .i64 0, .int .i64 0, .slice none 0 0, .slice none 0 0, .slice none 0 0], .int .i64 n])) w' := by
  refine ⟨nilP, ?_, ?_, hb⟩
  · rw [h]; unfold appM; rw [h, if_neg hn]; rfl
  · unfold appM; rw [h, if_neg hn]; exact Mow.zero _ _
theorem appE_ref {m : Md} {d : Ed} {n : Int} (h : refE m d = n) (hn : n ≠ 0) : appE m d = n := by unfold appE; rw [if_pos (by rw [h]; exact hn), h]
end Go.Proofs.YtjbmlhipjceeeaaGreat.Mf
