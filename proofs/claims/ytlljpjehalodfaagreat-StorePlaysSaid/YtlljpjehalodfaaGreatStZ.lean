/- What always holds of a store (chapter 14; plain laws). -/
import Derived.Test.YtlljpjehalodfaaGreatStY
namespace Go.Proofs.YtlljpjehalodfaaGreat
open Go.RowKit
namespace St

def PS.tot (s : PS) : Nat := msum (fun o : PO => o.d.length) s.objs + msum PU.sum s.ups
structure PSrt (s : PS) : Prop where
  so : s.objs.Pairwise fun p q => ltS p.1 q.1 = true
  su : s.ups.Pairwise fun p q => p.1 < q.1
  sp : ∀ p ∈ s.ups, p.2.parts.Pairwise fun p q => p.1 < q.1
structure PInv (s : PS) (n : Nat) : Prop where
  all : s.all = (s.tot : Int)
  big : s.tot ≤ n * 262144
  od : ∀ p ∈ s.objs, p.2.d.length ≤ 262144
  pd : ∀ p ∈ s.ups, ∀ q ∈ p.2.parts, q.2.length ≤ 262144
  on : s.objs.length ≤ n
  un : s.ups.length ≤ n
  pn : ∀ p ∈ s.ups, p.2.parts.length ≤ n
  v0 : 0 ≤ s.ver
  v1 : s.ver ≤ (n : Int)
  i0 : 0 ≤ s.id
  i1 : s.id ≤ (n : Int)
  t0 : 0 ≤ s.now
  t1 : s.now ≤ 1099511627776
  ok : ∀ p ∈ s.objs, rightB p.1 = true
  uk : ∀ p ∈ s.ups, rightB p.2.key = true
  ui : ∀ p ∈ s.ups, p.1 ≤ s.id
  ov : ∀ p ∈ s.objs, 1 ≤ p.2.ver ∧ p.2.ver ≤ s.ver ∧ 0 ≤ p.2.born ∧ p.2.born ≤ s.now
  one : ∀ p ∈ s.objs, ∀ q ∈ s.objs, p.2.ver = q.2.ver → p.1 = q.1
  old : ∀ p ∈ s.objs, ∀ q ∈ s.objs, p.2.ver < q.2.ver → p.2.born ≤ q.2.born
  ub : ∀ p ∈ s.ups, 0 ≤ p.2.born ∧ p.2.born ≤ s.now
  pr : ∀ p ∈ s.ups, ∀ q ∈ p.2.parts, 1 ≤ q.1 ∧ q.1 ≤ 32
theorem pinv_empty (g n : Nat) : PInv (emptyLS g).pure n where
  all := rfl
  big := Nat.zero_le _
  od p hp := by cases hp
  pd p hp := by cases hp
  on := Nat.zero_le _
  un := Nat.zero_le _
  pn p hp := by cases hp
  v0 := Int.le_refl _
  v1 := Int.natCast_nonneg _
  i0 := Int.le_refl _
  i1 := Int.natCast_nonneg _
  t0 := Int.le_refl _
  t1 := by show (0 : Int) ≤ 1099511627776; decide
  ok p hp := by cases hp
  uk p hp := by cases hp
  ui p hp := by cases hp
  ov p hp := by cases hp
  one p hp := by cases hp
  old p hp := by cases hp
  ub p hp := by cases hp
  pr p hp := by cases hp
theorem mem_pure_o {L : LS} {p : ByteArray × Ob} (hp : p ∈ L.objs) : (p.1, p.2.pure) ∈ L.pure.objs := List.mem_map.2 ⟨p, hp, rfl⟩
theorem mem_pure_u {L : LS} {p : Int × Up} (hp : p ∈ L.ups) : (p.1, p.2.pure) ∈ L.pure.ups := List.mem_map.2 ⟨p, hp, rfl⟩
theorem pure_tot (L : LS) : L.pure.tot = L.tot := by
  unfold PS.tot LS.tot
  rw [show msum (fun o : PO => o.d.length) L.pure.objs = msum (fun o : Ob => o.d.length) L.objs from msum_map Ob.pure (fun o : PO => o.d.length) L.objs]
  rw [show msum PU.sum L.pure.ups = msum psum L.ups from (msum_map Up.pure PU.sum L.ups).trans (by congr 1; exact funext pure_psum)]
theorem PInv.inv {L : LS} {n : Nat} (h : PInv L.pure n) : Inv L n where
  all := by rw [← pure_tot]; exact h.all
  big := by rw [← pure_tot]; exact h.big
  od p hp := h.od _ (mem_pure_o hp)
  pd p hp q hq := h.pd _ (mem_pure_u hp) (q.1, q.2.d) (List.mem_map.2 ⟨q, hq, rfl⟩)
  on := by have := h.on; rw [show L.pure.objs.length = L.objs.length from List.length_map ..] at this; exact this
  un := by have := h.un; rw [show L.pure.ups.length = L.ups.length from List.length_map ..] at this; exact this
  pn p hp := by have := h.pn _ (mem_pure_u hp); rw [show p.2.pure.parts.length = p.2.parts.length from List.length_map ..] at this; exact this
  v0 := h.v0
  v1 := h.v1
  i0 := h.i0
  i1 := h.i1
  t0 := h.t0
  t1 := h.t1
theorem At.srt {w : World} {L : LS} (h : At w L) : PSrt L.pure where
  so := by show (L.objs.map _).Pairwise _; rw [List.pairwise_map]; exact h.mo.srt
  su := by show (L.ups.map _).Pairwise _; rw [List.pairwise_map]; exact h.mu.srt.imp fun h => by simpa [intT] using h
  sp p hp := by
    obtain ⟨q, hq, rfl⟩ := List.mem_map.1 hp
    show (q.2.parts.map _).Pairwise _
    rw [List.pairwise_map]
    exact (h.um q hq).srt.imp fun h => by simpa [intT] using h
theorem mdel_len_lt {κ β : Type} [DecidableEq κ] {l : List (κ × β)} {p : κ × β} (h : p ∈ l) : (mdel l p.1).length < l.length := by
  unfold mdel
  exact List.length_filter_lt_length_iff_exists.2 ⟨p, h, by simp⟩
section
variable {s : PS} {n : Nat} {c : PC}
theorem PSrt.ndo (h : PSrt s) : Nd s.objs := h.so.imp fun h e => ltK_ne (K := kS) h e
theorem PSrt.ndu (h : PSrt s) : Nd s.ups := h.su.imp fun h e => by omega
theorem PSrt.ndp (h : PSrt s) {p : Int × PU} (hp : p ∈ s.ups) : Nd p.2.parts := (h.sp p hp).imp fun h e => by omega
theorem PInv.more (h : PInv s n) {m : Nat} (hm : n ≤ m) : PInv s m :=
  { h with big := Nat.le_trans h.big (Nat.mul_le_mul_right _ hm), on := Nat.le_trans h.on hm, un := Nat.le_trans h.un hm, pn := fun p hp => Nat.le_trans (h.pn p hp) hm, v1 := by have := h.v1; omega, i1 := by have := h.i1; omega }
theorem PInv.made (hs : Nd s.objs) (h : PInv s n) {k : ByteArray} {d : Bs} (hk : rightB k = true) (hd : d.length ≤ 262144) : PInv (s.made k d) (n + 1) := by
  have hv := h.v1
  have hsum := msum_mdel_elim (fun o : PO => o.d.length) (x := k) hs
  have hgl : (mget s.objs k).elim 0 (fun o : PO => o.d.length) = ((mget s.objs k).getD po0).d.length := by cases mget s.objs k <;> rfl
  rw [hgl] at hsum
  have htot : (s.made k d).tot + ((mget s.objs k).getD po0).d.length = s.tot + d.length := by
    show msum (fun o : PO => o.d.length) (mput ltS s.objs k ⟨d, s.ver + 1, s.now⟩) + msum PU.sum s.ups + _ = msum (fun o : PO => o.d.length) s.objs + msum PU.sum s.ups + _
    rw [msum_mput]
    dsimp only
    omega
  refine ⟨?_, ?_, fun p hp => ?_, h.pd, Nat.le_trans (mput_len_le _ _ _ _) (Nat.succ_le_succ h.on), Nat.le_succ_of_le h.un, fun p hp => Nat.le_succ_of_le (h.pn p hp), ?_, ?_, h.i0, ?_, h.t0, h.t1, fun p hp => ?_, h.uk, h.ui, fun p hp => ?_, fun p hp q hq => ?_, fun p hp q hq => ?_, h.ub, h.pr⟩
  · show s.all + _ = _
    rw [h.all]; omega
  · have := h.big; omega
  · rcases mput_mem.1 hp with rfl | ⟨hp, _⟩
    · exact hd
    · exact h.od p hp
  · show 0 ≤ s.ver + 1
    have := h.v0; omega
  · show s.ver + 1 ≤ ((n + 1 : Nat) : Int)
    omega
  · have := h.i1; show s.id ≤ ((n + 1 : Nat) : Int); omega
  · rcases mput_mem.1 hp with rfl | ⟨hp, _⟩
    · exact hk
    · exact h.ok p hp
  · have := h.v0; have := h.t0
    rcases mput_mem.1 hp with rfl | ⟨hp, _⟩
    · show 1 ≤ s.ver + 1 ∧ s.ver + 1 ≤ s.ver + 1 ∧ 0 ≤ s.now ∧ s.now ≤ s.now
      omega
    · have := h.ov p hp
      show 1 ≤ p.2.ver ∧ p.2.ver ≤ s.ver + 1 ∧ 0 ≤ p.2.born ∧ p.2.born ≤ s.now
      omega
  · rcases mput_mem.1 hp with rfl | ⟨hp, _⟩ <;> rcases mput_mem.1 hq with rfl | ⟨hq, _⟩
    · intro _; rfl
    · intro e; have := (h.ov q hq).2.1; dsimp only at e; omega
    · intro e; have := (h.ov p hp).2.1; dsimp only at e; omega
    · exact h.one p hp q hq
  · rcases mput_mem.1 hp with rfl | ⟨hp, _⟩ <;> rcases mput_mem.1 hq with rfl | ⟨hq, _⟩
    · intro _; exact Int.le_refl _
    · intro e; have := (h.ov q hq).2.1; dsimp only at e; omega
    · intro e; exact (h.ov p hp).2.2.2
    · exact h.old p hp q hq
theorem PInv.closed (hs : PSrt s) (h : PInv s n) {id : Int} {u : PU} (hu : mget s.ups id = some u) : PInv (s.closed id u) n := by
  have e := msum_mdel PU.sum hs.ndu hu
  have ht : (s.closed id u).tot + u.sum = s.tot := by
    show msum _ s.objs + msum PU.sum (mdel s.ups id) + u.sum = msum _ s.objs + msum PU.sum s.ups
    omega
  refine ⟨?_, by have := h.big; omega, h.od, fun p hp => h.pd p (mdel_sub hp), h.on, Nat.le_trans (mdel_len_le _ _) h.un, fun p hp => h.pn p (mdel_sub hp), h.v0, h.v1, h.i0, h.i1, h.t0, h.t1, h.ok, fun p hp => h.uk p (mdel_sub hp), fun p hp => h.ui p (mdel_sub hp), h.ov, h.one, h.old, fun p hp => h.ub p (mdel_sub hp), fun p hp => h.pr p (mdel_sub hp)⟩
  show s.all - (u.sum : Int) = _
  rw [h.all]; omega
theorem putE_zero (h : s.putE c = 0) : rightB c.key = true ∧ c.d.length ≤ 262144 := by
  unfold PS.putE at h
  by_cases h1 : rightB c.key = false
  · rw [if_pos h1] at h; exact absurd h (by decide)
  rw [if_neg h1] at h
  split at h
  · exact absurd h (by decide)
  split at h
  · exact absurd h (by decide)
  split at h
  · exact absurd h (by decide)
  rename_i h3
  exact ⟨by simpa using h1, by omega⟩
theorem PInv.step (hs : PSrt s) (h : PInv s n) (c : PC) : PInv (s.step c).1 (n + 1) := by
  have hm := h.more (Nat.le_succ n)
  unfold PS.step
  split
  · unfold PS.put
    split
    · rename_i h0
      have := putE_zero h0
      exact h.made hs.ndo this.1 this.2
    · exact hm
  split
  · exact hm
  split
  · exact hm
  split
  · exact hm
  split
  · unfold PS.create
    split
    · rename_i h0
      have hr : rightB c.key = true := by
        unfold PS.createE at h0
        by_cases h1 : rightB c.key = false
        · rw [if_pos h1] at h0; exact absurd h0 (by decide)
        · simpa using h1
      have hnone : mget s.ups (s.id + 1) = none := mget_none.2 fun p hp e => by have := h.ui p hp; omega
      have hsum : msum PU.sum (mput ltI s.ups (s.id + 1) ⟨c.key, s.now, []⟩) = msum PU.sum s.ups := by
        rw [msum_mput, mdel_none hnone]; rfl
      have hi := h.i1
      refine ⟨?_, ?_, h.od, fun p hp => ?_, Nat.le_succ_of_le h.on, Nat.le_trans (mput_len_le _ _ _ _) (Nat.succ_le_succ h.un), fun p hp => ?_, h.v0, hm.v1, ?_, ?_, h.t0, h.t1, h.ok, fun p hp => ?_, fun p hp => ?_, h.ov, h.one, h.old, fun p hp => ?_, fun p hp => ?_⟩
      · show s.all = ((msum _ s.objs + msum PU.sum (mput ltI s.ups (s.id + 1) ⟨c.key, s.now, []⟩) : Nat) : Int)
        rw [hsum]; exact h.all
      · show msum _ s.objs + msum PU.sum (mput ltI s.ups (s.id + 1) ⟨c.key, s.now, []⟩) ≤ _
        rw [hsum]; exact hm.big
      · rcases mput_mem.1 hp with rfl | ⟨hp, _⟩
        · intro q hq; cases hq
        · exact h.pd p hp
      · rcases mput_mem.1 hp with rfl | ⟨hp, _⟩
        · exact Nat.zero_le _
        · exact hm.pn p hp
      · show 0 ≤ s.id + 1
        have := h.i0; omega
      · show s.id + 1 ≤ ((n + 1 : Nat) : Int)
        omega
      · rcases mput_mem.1 hp with rfl | ⟨hp, _⟩
        · exact hr
        · exact h.uk p hp
      · show p.1 ≤ s.id + 1
        rcases mput_mem.1 hp with rfl | ⟨hp, _⟩
        · exact Int.le_refl _
        · have := h.ui p hp; omega
      · rcases mput_mem.1 hp with rfl | ⟨hp, _⟩
        · exact ⟨h.t0, Int.le_refl _⟩
        · exact h.ub p hp
      · rcases mput_mem.1 hp with rfl | ⟨hp, _⟩
        · intro q hq; cases hq
        · exact h.pr p hp
    · exact hm
  split
  · unfold PS.drop
    split
    · exact hm
    · rename_i o ho
      have e := msum_mdel (fun o : PO => o.d.length) hs.ndo ho
      refine { hm with all := ?_, big := ?_, od := fun p hp => h.od p (mdel_sub hp), on := Nat.le_trans (mdel_len_le _ _) hm.on, ok := fun p hp => h.ok p (mdel_sub hp), ov := fun p hp => h.ov p (mdel_sub hp), one := fun p hp q hq => h.one p (mdel_sub hp) q (mdel_sub hq), old := fun p hp q hq => h.old p (mdel_sub hp) q (mdel_sub hq) }
      · show s.all - (o.d.length : Int) = ((msum (fun o : PO => o.d.length) (mdel s.objs c.key) + msum PU.sum s.ups : Nat) : Int)
        have := h.all
        unfold PS.tot at this
        omega
      · show msum (fun o : PO => o.d.length) (mdel s.objs c.key) + msum PU.sum s.ups ≤ _
        have := hm.big
        unfold PS.tot at this
        omega
  split
  · unfold PS.upload
    split
    · exact hm
    · rename_i u hu
      split
      · unfold PS.part
        split
        · rename_i h0
          have hc : (1 ≤ c.n ∧ c.n ≤ 32) ∧ c.d.length ≤ 262144 := by
            unfold PS.partE at h0
            split at h0
            · exact absurd h0 (by decide)
            split at h0
            · exact absurd h0 (by decide)
            omega
          have hmem := mget_mem hu
          have e1 := msum_mdel PU.sum hs.ndu hu
          have e2 : msum (fun d : Bs => d.length) u.parts = msum (fun d : Bs => d.length) (mdel u.parts c.n) + (mget u.parts c.n).elim 0 (fun d : Bs => d.length) := msum_mdel_elim (fun d : Bs => d.length) (x := c.n) (hs.ndp hmem)
          have hgl : (mget u.parts c.n).elim 0 (fun d : Bs => d.length) = ((mget u.parts c.n).getD []).length := by cases mget u.parts c.n <;> rfl
          rw [hgl] at e2
          have e3 : msum PU.sum (mput ltI s.ups c.id { u with parts := mput ltI u.parts c.n c.d }) + ((mget u.parts c.n).getD []).length = msum PU.sum s.ups + c.d.length := by
            rw [msum_mput]
            show _ + msum (fun d : Bs => d.length) (mput ltI u.parts c.n c.d) + _ = _
            rw [msum_mput]
            have : u.sum = msum (fun d : Bs => d.length) u.parts := rfl
            omega
          have hmo : PS.more u c = (c.d.length : Int) - (((mget u.parts c.n).getD []).length : Int) := rfl
          refine { hm with all := ?_, big := ?_, pd := fun p hp => ?_, un := ?_, pn := fun p hp => ?_, uk := fun p hp => ?_, ui := fun p hp => ?_, ub := fun p hp => ?_, pr := fun p hp => ?_ }
          · show s.all + PS.more u c = ((msum (fun o : PO => o.d.length) s.objs + msum PU.sum (mput ltI s.ups c.id { u with parts := mput ltI u.parts c.n c.d }) : Nat) : Int)
            have := h.all
            unfold PS.tot at this
            omega
          · show msum (fun o : PO => o.d.length) s.objs + msum PU.sum (mput ltI s.ups c.id { u with parts := mput ltI u.parts c.n c.d }) ≤ _
            have := h.big
            unfold PS.tot at this
            omega
          · rcases mput_mem.1 hp with rfl | ⟨hp, _⟩
            · intro q hq
              rcases mput_mem.1 hq with rfl | ⟨hq, _⟩
              · exact hc.2
              · exact h.pd _ hmem q hq
            · exact h.pd p hp
          · have h1 : (mdel s.ups c.id).length < s.ups.length := mdel_len_lt hmem
            show (mput ltI s.ups c.id _).length ≤ _
            unfold mput
            rw [(mins_perm _).length_eq, List.length_cons]
            have := hm.un
            omega
          · rcases mput_mem.1 hp with rfl | ⟨hp, _⟩
            · exact Nat.le_trans (mput_len_le _ _ _ _) (Nat.succ_le_succ (h.pn _ hmem))
            · exact hm.pn p hp
          · rcases mput_mem.1 hp with rfl | ⟨hp, _⟩
            · exact h.uk (c.id, u) hmem
            · exact h.uk p hp
          · rcases mput_mem.1 hp with rfl | ⟨hp, _⟩
            · exact h.ui (c.id, u) hmem
            · exact h.ui p hp
          · rcases mput_mem.1 hp with rfl | ⟨hp, _⟩
            · exact h.ub (c.id, u) hmem
            · exact h.ub p hp
          · rcases mput_mem.1 hp with rfl | ⟨hp, _⟩
            · intro q hq
              rcases mput_mem.1 hq with rfl | ⟨hq, _⟩
              · exact hc.1
              · exact h.pr _ hmem q hq
            · exact h.pr p hp
        · exact hm
      · split
        · unfold PS.complete
          split
          · rename_i h0
            have hl : ((joinP u.parts c.n.toNat).getD []).length ≤ 262144 := by
              unfold PS.completeE at h0
              split at h0
              · exact absurd h0 (by decide)
              split at h0
              · exact absurd h0 (by decide)
              split at h0
              · exact absurd h0 (by decide)
              omega
            have hk : rightB u.key = true := h.uk _ (mget_mem hu)
            exact PInv.made (s := s.closed c.id u) hs.ndo (h.closed hs hu) hk hl
          · exact hm
        · exact hm.closed hs hu
  · exact hm
theorem PInv.tick (h : PInv s n) (k : Int) : PInv (s.tick k) n := by
  unfold PS.tick
  split
  · rename_i h0
    have hk : 0 ≤ k ∧ s.now + k ≤ 1099511627775 := by
      unfold tickE at h0
      split at h0
      · exact absurd h0 (by decide)
      split at h0
      · exact absurd h0 (by decide)
      omega
    have := h.t0
    exact { h with t0 := by show 0 ≤ s.now + k; omega, t1 := by show s.now + k ≤ 1099511627776; omega, ov := fun p hp => (by have := h.ov p hp; show 1 ≤ p.2.ver ∧ p.2.ver ≤ s.ver ∧ 0 ≤ p.2.born ∧ p.2.born ≤ s.now + k; omega), ub := fun p hp => (by have := h.ub p hp; show 0 ≤ p.2.born ∧ p.2.born ≤ s.now + k; omega) }
  · exact h
end
end St
end Go.Proofs.YtlljpjehalodfaaGreat
