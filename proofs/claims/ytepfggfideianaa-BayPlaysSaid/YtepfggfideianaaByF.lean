/- Things as the program has them; sums of what is drained (chapter 15). -/
import Derived.Test.YtepfggfideianaaProg
import Derived.Test.YtepfggfideianaaByE
namespace Go.Proofs.Ytepfggfideianaa
open Go.RowKit Go.Conc
namespace By

def wt (x : Int) : Int := bits .and .i64 x 1023
theorem wt_in (x : Int) : 0 ≤ wt x ∧ wt x ≤ 1023 := by
  have h : (BitVec.ofInt 64 x &&& BitVec.ofInt 64 1023).toNat ≤ 1023 := by
    rw [BitVec.toNat_and]
    exact Nat.le_trans Nat.and_le_right (by decide)
  have e : wt x = ((BitVec.ofInt 64 x &&& BitVec.ofInt 64 1023).toNat : Int) := by
    show IntKind.i64.wrap ((BitVec.ofInt 64 x &&& BitVec.ofInt 64 1023).toNat : Int) = _
    rw [IntKind.wrap_i64]; omega
  rw [e]; omega
def sumW (L : List KX) : Int := L.foldr (fun x s => wt x.2 + s) 0
theorem sumW_cons (x : KX) (L : List KX) : sumW (x :: L) = wt x.2 + sumW L := rfl
theorem sumW_app : ∀ (L M : List KX), sumW (L ++ M) = sumW L + sumW M
  | [], M => (Int.zero_add _).symm
  | x :: L, M => by rw [List.cons_append, sumW_cons, sumW_cons, sumW_app L M]; omega
theorem sumW_in : ∀ (L : List KX), 0 ≤ sumW L ∧ sumW L ≤ 1023 * (L.length : Int)
  | [] => by simp [sumW]
  | x :: L => by
    have h1 := wt_in x.2
    have h2 := sumW_in L
    rw [sumW_cons, List.length_cons]
    omega
theorem sumW_perm {L M : List KX} (h : L.Perm M) : sumW L = sumW M := by
  induction h with
  | nil => rfl
  | cons x _ ih => rw [sumW_cons, sumW_cons, ih]
  | swap x y l => rw [sumW_cons, sumW_cons, sumW_cons, sumW_cons]; omega
  | trans _ _ h1 h2 => rw [h1, h2]
theorem perm_of_sel {α κ : Type} [DecidableEq α] [DecidableEq κ] (f : α → κ) {a b : List α} (h : ∀ k, (a.filter fun x => decide (f x = k)) = b.filter fun x => decide (f x = k)) : a.Perm b := by
  rw [List.perm_iff_count]
  intro x
  have h1 : List.count x (a.filter fun y => decide (f y = f x)) = List.count x a := List.count_filter (by simp)
  have h2 : List.count x (b.filter fun y => decide (f y = f x)) = List.count x b := List.count_filter (by simp)
  rw [← h1, ← h2, h]
theorem drn_perm {m : List (ByteArray × Nat)} (hn : Nd m) {L : List KX} (h : Held L m) : (drn m L).Perm L := perm_of_sel (fun x : KX => x.1) fun k => drn_sel hn h k
theorem most_le {m : List (ByteArray × Nat)} {L : List KX} {n room : Nat} (h : Most (m.map fun p => cnt L p.1) n) (hr : ∀ k, cnt L k ≤ room) : n ≤ room := by
  rcases h.2 with e | e
  · omega
  · obtain ⟨p, _, rfl⟩ := List.mem_map.1 e
    exact hr p.1
theorem rd_cells {w : World} {B : Nat} {A : Option Addr} {l : List KX} (h : Reads w B 2 A l.length (kxc l)) (hp : 0 < l.length) : ∃ b off, A = some ⟨b, off, none⟩ ∧ b < B ∧ ∀ i, i < l.length → w.cell? ⟨b, off + i * 2, none⟩ = some (.string (gk l i).1) ∧ w.cell? ⟨b, off + i * 2 + 1, none⟩ = some (.int .i64 (gk l i).2) := by
  obtain ⟨b, off, e, hb, hc⟩ := h.2 hp
  refine ⟨b, off, e, hb, fun i hi => ?_⟩
  obtain ⟨h0, h1⟩ := kxc_get hi
  exact ⟨hc _ _ h0, by rw [Nat.add_assoc]; exact hc _ _ h1⟩
theorem gk_drop {D : List KX} {q : Nat} (h : q < D.length) : D.drop q = gk D q :: D.drop (q + 1) := by rw [List.drop_eq_getElem_cons h, gk_eq h]
def RetKeyed (w : World) (X : List KX) (e : Ending) (w' : World) : Prop := ∃ A c, e = .returned (.slice A X.length c) ∧ KXs w' w'.heap.size A X ∧ Below w.heap.size w w'
set_option maxRecDepth 100000 in
set_option maxHeartbeats 1600000 in
theorem keyed_calls (w : World) {BX c : Nat} {A : Option Addr} {X : List KX} (hX : KXs w BX A X) (hBX : BX ≤ w.heap.size) (hn : X.length ≤ 1000000) :
    Calls Try.prog 25 #[.slice A X.length c] w (RetKeyed w X) := by
  have HX := Lib.hid hX
  clear hX
  go_enter Try.func25, Try.ntmps25
  go_wp2
  go_loopw [3, 8] (fun out i wr => ∃ (j : Nat) (A' : Option Addr) (c' : Nat), j ≤ X.length ∧ i = .int .i64 (j : Int) ∧ out = .slice A' (X.take j).length c' ∧ Hid (wr.ownsRow w.heap.size 47 2 (.slice A' (X.take j).length c') (X.take j).length (kxc (X.take j))) ∧ Hid (Below w.heap.size w wr)) (fun _ i _ => X.length - (intOf i).toNat)
  case atStart => exact ⟨0, none, 0, Nat.zero_le _, rfl, rfl, Lib.hid (World.ownsRow_nil _ _ _ _), Lib.hid (Below.refl _ _)⟩
  case round =>
    obtain ⟨j, A', c', hj, rfl, rfl, HO, HW⟩ := hrel
    obtain ⟨wo, rfl⟩ : ∃ wo : World, wo = wr := ⟨_, rfl⟩
    have hso := HW.out.size
    by_cases hlt : j < X.length
    · have r1 := HX.out.below (HW.out.mono hBX)
      obtain ⟨bX, oX, eX, hbX, hcX⟩ := r1.cells (by omega)
      obtain ⟨x0, x1⟩ := hcX j hlt
      have i0 : (0 : Int) ≤ (j : Int) := by omega
      have i9 : (j : Int) < (X.length : Int) := by omega
      have HT := Lib.hid (gk_snoc hlt)
      have hlen : (X.take j).length ≤ 1000000 := by rw [List.length_take]; omega
      clear r1 hcX
      subst eX
      generalize gk X j = x at *
      generalize X.take j = T at *
      obtain ⟨k, v⟩ := x
      dsimp only at *
      have HW2 := Lib.hid ((HW.out.alloc hso (.cells #[.string k, .int .i64 v] 61)).alloc (by simp; omega) (.cells #[.string k, .int .i64 v] 47))
      have HO2 := Lib.hid ((HO.out.alloc (.cells #[.string k, .int .i64 v] 61)).alloc (.cells #[.string k, .int .i64 v] 47))
      have hrd : Reads ((wo.alloc (.cells #[.string k, .int .i64 v] 61)).alloc (.cells #[.string k, .int .i64 v] 47)) (wo.heap.size + 1 + 1) 2 (some ⟨wo.heap.size + 1, 0, none⟩) 1 [.string k, .int .i64 v] := by
        have := Reads.made (n := 1) (size := 2) (wo.alloc (.cells #[.string k, .int .i64 v] 61)) #[.string k, .int .i64 v] 47 rfl
        simpa using this
      go_wp2_with (at_builtin; go_must (refine wpList_append_sl _ rfl (.tmp 12) (.tmp 18) _ rfl w.heap.size 47 _ 2 24 Try.underlying48 Try.infoKx rfl (by omega) _ _ _ rfl HO2.out (wo.heap.size + 1 + 1) _ 1 1 _ rfl hrd (by simp [Value.oneCell']) (by unfold maxLen; omega) (by omega) (by simp; omega) ?_))
      intro A5 c5 w5 hc51 hc52 hr5 hbel5 hown5 hgr hob
      have e5 : (X.take (j + 1)).length = T.length + 1 := by rw [HT.out, List.length_append]; rfl
      have HO5 : Hid (w5.ownsRow w.heap.size 47 2 (.slice A5 (X.take (j + 1)).length c5) (X.take (j + 1)).length (kxc (X.take (j + 1)))) := Lib.hid (by rw [e5, HT.out, kxc_app]; exact hown5)
      have HW5 := Lib.hid (HW2.out.trans hbel5)
      have E5 := Lib.hid e5
      clear hc51 hc52 hr5 hbel5 hown5 hgr hob hrd HO2 HW2 x0 x1 e5
      go_wp2
      go_roundw
      case rel => exact ⟨j + 1, A5, c5, by omega, by go_num, by rw [E5.out], HO5, HW5⟩
      case measure => simp [intOf]; omega
    · obtain rfl : j = X.length := by omega
      rw [List.take_length] at HO ⊢
      go_wp2
      go_ret
      exact ⟨A', c', rfl, ⟨Reads.of_own HO.out, HX.out.ok⟩, HW.out⟩
end By
end Go.Proofs.Ytepfggfideianaa
