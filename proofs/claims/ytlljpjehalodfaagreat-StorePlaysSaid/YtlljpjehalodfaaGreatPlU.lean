/- Two stores side by side (chapter 14). -/
import Derived.Test.YtlljpjehalodfaaGreatProg
import Derived.Test.YtlljpjehalodfaaGreatPlR
namespace Go.Proofs.YtlljpjehalodfaaGreat
open Go.RowKit
namespace Rf
open St

theorem dat_lt {w : World} {gs c : Nat} {A : Option Addr} {d : Bs} (h : Dat w gs A c d) {a : Addr} (ha : A = some a) (hd : 0 < d.length) : a.block < w.heap.size := by
  obtain ⟨b, off, e, _, hc⟩ := h.at_ hd
  rw [ha] at e
  injection e with e
  subst e
  exact (cell_lt (hc 0 (byteV d[0]) (by simp [List.getElem?_eq_getElem hd]))).1
section
variable {w wr wx w' : World} {g gr base n : Nat} {L L' : LS} {R R' : RS} {x : Cl} {F : Nat → Prop}
theorem at_addr_lt (h : At w L) {a : Addr} (ha : L.addr a) : a.block < w.heap.size := by
  rcases ha with ⟨p, hp, e, hd⟩ | ⟨p, hp, q, hq, e, hd⟩
  · exact dat_lt (h.od p hp) e hd
  · exact dat_lt (h.ud p hp q hq) e hd
/-- What doesn't touch the store. -/
theorem at_off (h : At w L) (hk : Keep F w w') (hF : ∀ i, L.foot i → ¬ F i) (hA : ∀ a, L.addr a → ¬ F a.block) : At w' L := by
  have hd : ∀ {A : Option Addr} {c : Nat} {d : Bs}, Dat w L.gs A c d → (∀ a, A = some a → 0 < d.length → ¬ F a.block) → Dat w' L.gs A c d := fun hd hn => by
    refine ⟨hd.len, fun h0 => ?_⟩
    obtain ⟨b, off, e, hb, hc⟩ := hd.at_ h0
    exact ⟨b, off, e, hb, fun j u hu => hk.cell (hc j u hu) (hn ⟨b, off, none⟩ e h0 : ¬ F b)⟩
  exact ⟨hk.blk h.blk (hF _ (.inl rfl)), hk.map h.mo (hF _ (.inr (.inl rfl))), hk.map h.mu (hF _ (.inr (.inr (.inl rfl)))), fun p hp => hd (h.od p hp) (fun a e h0 => hA a (.inl ⟨p, hp, e, h0⟩)), fun p hp => hk.map (h.um p hp) (hF _ (.inr (.inr (.inr ⟨p, hp, rfl⟩)))), fun p hp q hq => hd (h.ud p hp q hq) (fun a e h0 => hA a (.inr ⟨p, hp, q, hq, e, h0⟩)), h.ne, h.ub, h.one, h.uk⟩
theorem _root_.Go.Proofs.YtlljpjehalodfaaGreat.St.Liv.keep' (h : Liv w wr g L n) (hA : At wx L) (hb : Below w.heap.size wr wx) : Liv w wx g L n := ⟨hA, h.inv, h.gs, h.high, h.below.trans hb⟩
/-- The program's store and the document's, in one memory, apart. -/
structure Pair (w wr : World) (g gr base : Nat) (L : LS) (R : RS) (n : Nat) : Prop where
  l : Liv w wr g L n
  r : RAt wr base R
  rg : R.g = gr
  lr : ∀ i, L.foot i → ¬ R.foot i
  la : ∀ a, L.addr a → ¬ R.foot a.block
  ra : ∀ b, R.addr b → ¬ L.foot b
  rh : ∀ i, R.foot i → w.heap.size ≤ i
theorem Pair.on (h : Pair w wr g gr base L R n) (hb : Below wr.heap.size wr wx) : Pair w wx g gr base L R n := ⟨h.l.on hb, h.r.below hb, h.rg, h.lr, h.la, h.ra, h.rh⟩
theorem Pair.more (h : Pair w wr g gr base L R n) {m : Nat} (hm : n ≤ m) : Pair w wr g gr base L R m := ⟨⟨h.l.at_, h.l.inv.more hm, h.l.gs, h.l.high, h.l.below⟩, h.r, h.rg, h.lr, h.la, h.ra, h.rh⟩
theorem Pair.stepL (h : Pair w wr g gr base L R n) (hs : StepTo wr L x wx L') (hi : PInv L'.pure (n + 1)) : Pair w wx g gr base L' R (n + 1) := by
  refine ⟨h.l.step hs hi, h.r.apart hs.keep (fun i hi hf => h.lr i hf hi) (fun b hb hf => h.ra b hb hf), h.rg, fun i hi hf => ?_, fun a ha hf => ?_, fun b hb hf => ?_, h.rh⟩
  · rcases hs.foot i hi with h1 | h1
    · exact h.lr i h1 hf
    · have := h.r.foot_lt hf; omega
  · rcases hs.prov a ha with h1 | h1
    · exact h.la a h1 hf
    · have := h.r.foot_lt hf; omega
  · rcases hs.foot b hf with h1 | h1
    · exact h.ra b hb h1
    · have := h.r.addr_lt hb; omega
theorem Pair.stepR (h : Pair w wr g gr base L R n) (hT : Turn wr base R wx R') : Pair w wx g gr base L R' n := by
  refine ⟨h.l.keep' ?_ ?_, hT.at_, hT.g.trans h.rg, fun i hi hf => ?_, fun a ha hf => ?_, fun b hb hf => ?_, fun i hi => ?_⟩
  · exact at_off h.l.at_ hT.keep h.lr h.la
  · exact hT.keep.below h.l.size h.rh
  · rcases hT.grew i hf with h1 | h1
    · exact h.lr i hi h1
    · have := h.l.at_.foot_lt hi; omega
  · rcases hT.grew _ hf with h1 | h1
    · exact h.la a ha h1
    · have := at_addr_lt h.l.at_ ha; omega
  · rcases hT.prov b hb with h1 | h1
    · exact h.ra b h1 hf
    · have := h.l.at_.foot_lt hf; omega
  · rcases hT.grew i hi with h1 | h1
    · exact h.rh i h1
    · have := h.l.size; omega
theorem Pair.off (h : Pair w wr g gr base L R n) (hk : Keep F wr wx) (h1 : ∀ i, F i → ¬ L.foot i ∧ (∀ a, L.addr a → a.block ≠ i) ∧ ¬ R.foot i ∧ ¬ R.addr i ∧ w.heap.size ≤ i) : Pair w wx g gr base L R n :=
  ⟨h.l.keep' (at_off h.l.at_ hk (fun i hi hf => (h1 i hf).1 hi) (fun a ha hf => (h1 _ hf).2.1 a ha rfl)) (hk.below h.l.size fun i hf => (h1 i hf).2.2.2.2), h.r.apart hk (fun i hi hf => (h1 i hf).2.2.1 hi) (fun b hb hf => (h1 b hf).2.2.2.1 hb), h.rg, h.lr, h.la, h.ra, h.rh⟩
theorem tick_addr {k : Int} {a : Addr} (h : (L.tick k).addr a) : L.addr a := by
  unfold LS.tick at h
  split at h <;> exact h
theorem Pair.tickL (h : Pair w wr g gr base L R n) {k : Int} (hA : At wx (L.tick k)) (hK : Keep L.foot wr wx) (hi : PInv (L.tick k).pure n) : Pair w wx g gr base (L.tick k) R n :=
  ⟨h.l.tick hA hK hi, h.r.apart hK (fun i hi hf => h.lr i hf hi) (fun b hb hf => h.ra b hb hf), h.rg, fun i hi hf => h.lr i (tick_foot L k hi) hf, fun a ha hf => h.la a (tick_addr ha) hf, fun b hb hf => h.ra b hb (tick_foot L k hf), h.rh⟩
theorem Pair.tickR (h : Pair w wr g gr base L R n) {k : Int} (hA : RAt wx base (R.tick k)) (hK : Keep R.foot wr wx) : Pair w wx g gr base L (R.tick k) n := by
  refine h.stepR ⟨hA, hK, fun i hi => .inl ?_, fun b hb => .inl ?_, ?_⟩
  · unfold RS.tick at hi
    split at hi <;> exact hi
  · unfold RS.tick at hb
    split at hb <;> exact hb
  · unfold RS.tick
    split <;> rfl
theorem Sim.tick {s : PS} (h : Sim R s) (k : Int) : Sim (R.tick k) (s.tick k) := by
  unfold RS.tick PS.tick
  rw [h.now]
  split
  · exact ⟨h.objs, h.ups, h.ver, h.id, rfl⟩
  · exact h
theorem rep_keep {b : Nat} {v : Value} {r : PR} (h : RepAt b wr v r) (hk : Keep F wr wx) (hF : ∀ i, b ≤ i → ¬ F i) : RepAt b wx v r := by
  obtain ⟨A, c, Al, cl, e, h1, h2⟩ := h
  exact ⟨A, c, Al, cl, e, hk.own h1 hF, hk.own h2 hF⟩
end
theorem step_reply (s : PS) (c : PC) : (s.step c).2.list.length ≤ 16 ∧ ((s.step c).2.d ≠ [] → c.kind = 3 ∨ c.kind = 4) := by
  rw [kind_step]
  split
  · unfold PS.put
    split <;> exact ⟨Nat.zero_le _, fun h => absurd rfl h⟩
  split
  · rename_i h
    refine ⟨?_, fun _ => h⟩
    unfold PS.get
    split <;> exact Nat.zero_le _
  split
  · refine ⟨?_, fun h => absurd rfl h⟩
    show (((s.keys c).take 16).map s.itO).length ≤ 16
    rw [List.length_map, List.length_take]; omega
  split
  · refine ⟨?_, fun h => absurd rfl h⟩
    show (((s.ids c).take 16).map s.itU).length ≤ 16
    rw [List.length_map, List.length_take]; omega
  split
  · unfold PS.create
    split <;> exact ⟨Nat.zero_le _, fun h => absurd rfl h⟩
  split
  · unfold PS.drop
    split <;> exact ⟨Nat.zero_le _, fun h => absurd rfl h⟩
  split
  · unfold PS.upload
    split
    · exact ⟨Nat.zero_le _, fun h => absurd rfl h⟩
    · split
      · unfold PS.part
        split <;> exact ⟨Nat.zero_le _, fun h => absurd rfl h⟩
      · split
        · unfold PS.complete
          split <;> exact ⟨Nat.zero_le _, fun h => absurd rfl h⟩
        · exact ⟨Nat.zero_le _, fun h => absurd rfl h⟩
  · exact ⟨Nat.zero_le _, fun h => absurd rfl h⟩
end Rf
end Go.Proofs.YtlljpjehalodfaaGreat
