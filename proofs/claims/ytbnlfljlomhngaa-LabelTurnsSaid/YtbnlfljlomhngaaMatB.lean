/- Meets of both (chapter 8). -/
import Derived.Test.YtbnlfljlomhngaaProg
import Derived.Test.YtbnlfljlomhngaaMatA
import Derived.BigQuiet
namespace Go.Proofs.Ytbnlfljlomhngaa
open Go.RowKit

def eqO (o : Option ByteArray) (v : ByteArray) : Bool := match o with | none => false | some u => decide (u = v)
def prefB (u v : ByteArray) : Bool := Lib.hasPrefix u.data.toList v.data.toList
def prefO (o : Option ByteArray) (v : ByteArray) : Bool := match o with | none => false | some u => prefB u v
def oneB (l : List Lab) (m : Mat) : Bool := if m.2.1 = 1 then eqO (getB l m.1) m.2.2 else if m.2.1 = 2 then !eqO (getB l m.1) m.2.2 else if m.2.1 = 3 then prefO (getB l m.1) m.2.2 else (getB l m.1).isSome
def okK (l : List Lab) (ms : List Mat) (k : Nat) : Bool := rightB l && (List.range k).all fun i => oneB l (matAt ms i)
theorem okK_succ (l : List Lab) (ms : List Mat) (k : Nat) : okK l ms (k + 1) = (okK l ms k && oneB l (matAt ms k)) := by
  unfold okK
  rw [List.range_succ, List.all_append, Bool.and_assoc]
  simp
def meetsP (l : List Lab) (ms : List Mat) : Prop := ∀ i, i < ms.length → asksB (matAt ms i) = true
instance (l : List Lab) (ms : List Mat) : Decidable (meetsP l ms) := by unfold meetsP; infer_instance
def meetsB (l : List Lab) (ms : List Mat) : Bool := decide (meetsP l ms) && okK l ms ms.length
theorem meets_bad {l : List Lab} {ms : List Mat} {k : Nat} (hk : k < ms.length) (h : asksB (matAt ms k) = false) : meetsB l ms = false := by
  unfold meetsB
  rw [dcf (fun h' => by have := h' k hk; rw [h] at this; cases this)]
  rfl
theorem meets_end {l : List Lab} {ms : List Mat} {b : Bool} (h : ∀ i, i < ms.length → asksB (matAt ms i) = true) (hb : okK l ms ms.length = b) : meetsB l ms = b := by
  have h' : meetsP l ms := h
  unfold meetsB
  rw [dct h', hb]
  rfl
theorem asks_step {ms : List Mat} {k : Nat} (h : ∀ i, i < k → asksB (matAt ms i) = true) (hk : asksB (matAt ms k) = true) : ∀ i, i < k + 1 → asksB (matAt ms i) = true := fun i hi => by
  rcases Nat.lt_or_ge i k with h1 | h1
  · exact h i h1
  · obtain rfl : i = k := by omega
    exact hk

set_option maxRecDepth 100000 in
set_option maxHeartbeats 3200000 in
theorem meets_calls (w : World) {B B2 c c2 : Nat} {A A2 : Option Addr} {l : List Lab} {ms : List Mat} (h : Labs w B A l) (hB : B ≤ w.heap.size) (h2 : Mats w B2 A2 ms) (hB2 : B2 ≤ w.heap.size) (hf : Fit l) (hfm : ∀ m ∈ ms, FitM m) (hn : l.length ≤ 4398046511104) (hn2 : ms.length ≤ 4398046511104) :
    Calls Try.prog 23 #[.slice A l.length c, .slice A2 ms.length c2] w fun e w' => e = .returned (.bool (meetsB l ms)) ∧ Below w.heap.size w w' := by
  have hcall := right_calls w (c := c) h hB hf (by omega)
  have HC := Lib.hid hcall
  have HFM : Hid (∀ k, k < ms.length → FitM (matAt ms k)) := Lib.hid fun k hk => by rw [← matAt_eq hk]; exact hfm _ (List.getElem_mem hk)
  have Hok0 : Hid (okK l ms 0 = rightB l) := Lib.hid (by simp [okK])
  clear hcall hf hfm
  go_enter Try.func23, Try.ntmps23
  go_wp2_with fail
  refine HC.out.mono ?_
  rintro e w1 ⟨rfl, hb1⟩
  have s1 := hb1.size
  have h1 := h.below (hb1.mono hB)
  have m1 := h2.below (hb1.mono hB2)
  clear HC h h2
  go_wp2
  go_loopw [5, 14] (fun o i wr => ∃ (k : Nat) (b : Bool), k ≤ ms.length ∧ i = .int .i64 (k : Int) ∧ o = .bool b ∧ Hid (okK l ms k = b ∧ ∀ i, i < k → asksB (matAt ms i) = true) ∧ Below w1.heap.size w1 wr) (fun _ i _ => ms.length - (intOf i).toNat)
  case atStart => exact ⟨0, _, Nat.zero_le _, rfl, rfl, Lib.hid ⟨Hok0.out, fun i hi => absurd hi (by omega)⟩, Below.refl _ _⟩
  case round =>
    obtain ⟨k, b, hk, rfl, rfl, HK, hbel⟩ := hrel
    by_cases hlt : k < ms.length
    · obtain ⟨bm, off, rfl, hbB, hcell⟩ := (m1.below (hbel.mono (by omega))).cellAt (show 0 < ms.length by omega)
      obtain ⟨q0, q1, q2⟩ := hcell k hlt
      have hsz := hbel.size
      clear hcell
      have hfit := HFM.out k hlt
      have Hsucc := Lib.hid (okK_succ l ms k)
      have Hbad := Lib.hid fun ha => meets_bad (l := l) hlt ha
      have Hask := Lib.hid fun ha => asks_step HK.out.2 ha
      generalize hm : matAt ms k = m at *
      obtain ⟨n, way, v⟩ := m
      clear hm
      have hlr := h1.below ((hbel.mono (by omega)).alloc (by omega) (.cells #[.string n, .int .i64 way, .string v] 42))
      have hg := get_calls _ (c := c) hlr (by simp; omega) hn n
      have hcase := asks_cases (n, way, v)
      simp only at hcase q0 q1 q2
      have hA := fun W => asks_calls W n way v hfit
      have hkb := HK.out.1
      rcases hcase with ⟨ha, -⟩ | ⟨ha, -, -, hway⟩
      · rw [ha] at hA
        have HA := Lib.hid hA
        have HR := Lib.hid (Hbad.out ha)
        clear hA ha hkb
        have HG := Lib.hid hg
        clear hg
        go_wp2_with fail
        refine HG.out.mono ?_
        rintro e w2 ⟨rfl, hb2⟩
        have hbx := (Blk.new wr 42 #[.string n, .int .i64 way, .string v]).below hb2 (by simp)
        have y0 := hbx.cell 0
        have y1 := hbx.cell 1
        have y2 := hbx.cell 2
        simp only [List.getElem?_toArray, List.getElem?_cons_zero, List.getElem?_cons_succ] at y0 y1 y2
        have hbel2 := (hbel.alloc hsz (.cells #[.string n, .int .i64 way, .string v] 42)).trans (hb2.mono (by simp; omega))
        go_wp2_with fail
        refine (HA.out _).mono ?_
        rintro e w3 ⟨rfl, hb3⟩
        go_wp2
        go_ret
        exact ⟨by rw [HR.out]; rfl, hb1.trans ((hbel2.trans (hb3.mono hbel2.size)).mono s1)⟩
      · rw [ha] at hA
        have HA := Lib.hid hA
        have HAs := Lib.hid (Hask.out ha)
        clear hA ha Hask Hbad
        have hsum : ∃ (o : Option ByteArray) (t : Bool), getB l n = o ∧ oneB l (n, way, v) = t ∧ ((way = 1 ∧ eqO o v = t) ∨ (way = 2 ∧ (!eqO o v) = t) ∨ (way = 3 ∧ prefO o v = t) ∨ (way = 4 ∧ o.isSome = t)) := by
          refine ⟨_, _, rfl, rfl, ?_⟩
          rcases hway with rfl | rfl | rfl | ⟨rfl, -⟩
          · exact .inl ⟨rfl, rfl⟩
          · exact .inr (.inl ⟨rfl, rfl⟩)
          · exact .inr (.inr (.inl ⟨rfl, rfl⟩))
          · exact .inr (.inr (.inr ⟨rfl, rfl⟩))
        obtain ⟨o, t, ho, ht, hw⟩ := hsum
        rw [ho] at hg
        have HS : Hid (okK l ms (k + 1) = (b && t)) := Lib.hid (by rw [Hsucc.out, hkb, ht])
        clear ho ht hkb Hsucc hway
        rcases o with _ | u
        · have HG : Hid (Calls Try.prog 19 #[.slice A l.length c, .string n] (wr.alloc (.cells #[.string n, .int .i64 way, .string v] 42)) fun e w' => e = .returned (.tuple #[.string ⟨#[]⟩, .bool false]) ∧ Below (wr.alloc (.cells #[.string n, .int .i64 way, .string v] 42)).heap.size (wr.alloc (.cells #[.string n, .int .i64 way, .string v] 42)) w') := Lib.hid hg
          clear hg
          rcases hw with ⟨rfl, rfl⟩ | ⟨rfl, rfl⟩ | ⟨rfl, rfl⟩ | ⟨rfl, rfl⟩
          all_goals
            cases b
            all_goals
              go_wp2_with fail
              refine HG.out.mono ?_
              rintro e w2 ⟨rfl, hb2⟩
              have hbx := (Blk.new wr 42 _).below hb2 (by simp)
              have y0 := hbx.cell 0
              have y1 := hbx.cell 1
              have y2 := hbx.cell 2
              simp only [List.getElem?_toArray, List.getElem?_cons_zero, List.getElem?_cons_succ] at y0 y1 y2
              have hbel2 := (hbel.alloc hsz _).trans (hb2.mono (by simp; omega))
              go_wp2_with fail
              refine (HA.out _).mono ?_
              rintro e w3 ⟨rfl, hb3⟩
              have hbx3 := hbx.below hb3 hbx.lt
              have z0 := hbx3.cell 0
              have z1 := hbx3.cell 1
              have z2 := hbx3.cell 2
              simp only [List.getElem?_toArray, List.getElem?_cons_zero, List.getElem?_cons_succ] at z0 z1 z2
              have hbel3 := hbel2.trans (hb3.mono hbel2.size)
              clear y0 y1 y2
              go_wp2
              go_roundw
              case rel => exact ⟨k + 1, _, by omega, by go_num, rfl, Lib.hid ⟨HS.out, HAs.out⟩, hbel3⟩
              case measure => simp [intOf]; omega
        · have HG : Hid (Calls Try.prog 19 #[.slice A l.length c, .string n] (wr.alloc (.cells #[.string n, .int .i64 way, .string v] 42)) fun e w' => e = .returned (.tuple #[.string u, .bool true]) ∧ Below (wr.alloc (.cells #[.string n, .int .i64 way, .string v] 42)).heap.size (wr.alloc (.cells #[.string n, .int .i64 way, .string v] 42)) w') := Lib.hid hg
          clear hg
          rcases hw with ⟨rfl, ht⟩ | ⟨rfl, ht⟩ | ⟨rfl, ht⟩ | ⟨rfl, rfl⟩
          · have q : (u.toList == v.toList) = t := by rw [bytes_eqd]; exact ht
            clear ht
            cases b <;> cases t
            all_goals
              go_wp2_with fail
              refine HG.out.mono ?_
              rintro e w2 ⟨rfl, hb2⟩
              have hbx := (Blk.new wr 42 _).below hb2 (by simp)
              have y0 := hbx.cell 0
              have y1 := hbx.cell 1
              have y2 := hbx.cell 2
              simp only [List.getElem?_toArray, List.getElem?_cons_zero, List.getElem?_cons_succ] at y0 y1 y2
              have hbel2 := (hbel.alloc hsz _).trans (hb2.mono (by simp; omega))
              go_wp2_with fail
              refine (HA.out _).mono ?_
              rintro e w3 ⟨rfl, hb3⟩
              have hbx3 := hbx.below hb3 hbx.lt
              have z0 := hbx3.cell 0
              have z1 := hbx3.cell 1
              have z2 := hbx3.cell 2
              simp only [List.getElem?_toArray, List.getElem?_cons_zero, List.getElem?_cons_succ] at z0 z1 z2
              have hbel3 := hbel2.trans (hb3.mono hbel2.size)
              clear y0 y1 y2
              go_wp2
              go_roundw
              case rel => exact ⟨k + 1, _, by omega, by go_num, rfl, Lib.hid ⟨HS.out, HAs.out⟩, hbel3⟩
              case measure => simp [intOf]; omega
          · have q : (u.toList == v.toList) = !t := by rw [bytes_eqd, ← ht]; exact (Bool.not_not _).symm
            clear ht
            cases b <;> cases t
            all_goals
              simp only [Bool.not_true, Bool.not_false] at q
              go_wp2_with fail
              refine HG.out.mono ?_
              rintro e w2 ⟨rfl, hb2⟩
              have hbx := (Blk.new wr 42 _).below hb2 (by simp)
              have y0 := hbx.cell 0
              have y1 := hbx.cell 1
              have y2 := hbx.cell 2
              simp only [List.getElem?_toArray, List.getElem?_cons_zero, List.getElem?_cons_succ] at y0 y1 y2
              have hbel2 := (hbel.alloc hsz _).trans (hb2.mono (by simp; omega))
              go_wp2_with fail
              refine (HA.out _).mono ?_
              rintro e w3 ⟨rfl, hb3⟩
              have hbx3 := hbx.below hb3 hbx.lt
              have z0 := hbx3.cell 0
              have z1 := hbx3.cell 1
              have z2 := hbx3.cell 2
              simp only [List.getElem?_toArray, List.getElem?_cons_zero, List.getElem?_cons_succ] at z0 z1 z2
              have hbel3 := hbel2.trans (hb3.mono hbel2.size)
              clear y0 y1 y2
              go_wp2
              go_roundw
              case rel => exact ⟨k + 1, _, by omega, by go_num, rfl, Lib.hid ⟨HS.out, HAs.out⟩, hbel3⟩
              case measure => simp [intOf]; omega
          · have ht : Lib.hasPrefix u.data.toList v.data.toList = t := ht
            cases b
            · clear ht
              go_wp2_with fail
              refine HG.out.mono ?_
              rintro e w2 ⟨rfl, hb2⟩
              have hbx := (Blk.new wr 42 _).below hb2 (by simp)
              have y0 := hbx.cell 0
              have y1 := hbx.cell 1
              have y2 := hbx.cell 2
              simp only [List.getElem?_toArray, List.getElem?_cons_zero, List.getElem?_cons_succ] at y0 y1 y2
              have hbel2 := (hbel.alloc hsz _).trans (hb2.mono (by simp; omega))
              go_wp2_with fail
              refine (HA.out _).mono ?_
              rintro e w3 ⟨rfl, hb3⟩
              have hbx3 := hbx.below hb3 hbx.lt
              have z0 := hbx3.cell 0
              have z1 := hbx3.cell 1
              have z2 := hbx3.cell 2
              simp only [List.getElem?_toArray, List.getElem?_cons_zero, List.getElem?_cons_succ] at z0 z1 z2
              have hbel3 := hbel2.trans (hb3.mono hbel2.size)
              clear y0 y1 y2
              go_wp2
              go_roundw
              case rel => exact ⟨k + 1, _, by omega, by go_num, rfl, Lib.hid ⟨HS.out, HAs.out⟩, hbel3⟩
              case measure => simp [intOf]; omega
            · cases t
              all_goals
                go_wp2_with fail
                refine HG.out.mono ?_
                rintro e w2 ⟨rfl, hb2⟩
                have hbx := (Blk.new wr 42 _).below hb2 (by simp)
                have y0 := hbx.cell 0
                have y1 := hbx.cell 1
                have y2 := hbx.cell 2
                simp only [List.getElem?_toArray, List.getElem?_cons_zero, List.getElem?_cons_succ] at y0 y1 y2
                have hbel2 := (hbel.alloc hsz _).trans (hb2.mono (by simp; omega))
                go_wp2_with fail
                refine (HA.out _).mono ?_
                rintro e w3 ⟨rfl, hb3⟩
                have hbx3 := hbx.below hb3 hbx.lt
                have z0 := hbx3.cell 0
                have z1 := hbx3.cell 1
                have z2 := hbx3.cell 2
                simp only [List.getElem?_toArray, List.getElem?_cons_zero, List.getElem?_cons_succ] at z0 z1 z2
                have hbel3 := hbel2.trans (hb3.mono hbel2.size)
                clear y0 y1 y2
                go_wp2_with fail
                refine (Try.strings_HasPrefix u v _).mono ?_
                rintro e w4 ⟨rfl, rfl⟩
                rw [ht]
                go_wp2
                go_roundw
                case rel => exact ⟨k + 1, _, by omega, by go_num, rfl, Lib.hid ⟨HS.out, HAs.out⟩, hbel3⟩
                case measure => simp [intOf]; omega
          · cases b
            all_goals
              go_wp2_with fail
              refine HG.out.mono ?_
              rintro e w2 ⟨rfl, hb2⟩
              have hbx := (Blk.new wr 42 _).below hb2 (by simp)
              have y0 := hbx.cell 0
              have y1 := hbx.cell 1
              have y2 := hbx.cell 2
              simp only [List.getElem?_toArray, List.getElem?_cons_zero, List.getElem?_cons_succ] at y0 y1 y2
              have hbel2 := (hbel.alloc hsz _).trans (hb2.mono (by simp; omega))
              go_wp2_with fail
              refine (HA.out _).mono ?_
              rintro e w3 ⟨rfl, hb3⟩
              have hbx3 := hbx.below hb3 hbx.lt
              have z0 := hbx3.cell 0
              have z1 := hbx3.cell 1
              have z2 := hbx3.cell 2
              simp only [List.getElem?_toArray, List.getElem?_cons_zero, List.getElem?_cons_succ] at z0 z1 z2
              have hbel3 := hbel2.trans (hb3.mono hbel2.size)
              clear y0 y1 y2
              go_wp2
              go_roundw
              case rel => exact ⟨k + 1, _, by omega, by go_num, rfl, Lib.hid ⟨HS.out, HAs.out⟩, hbel3⟩
              case measure => simp [intOf]; omega
    · obtain rfl : k = ms.length := by omega
      have HR := Lib.hid (meets_end HK.out.2 HK.out.1)
      go_wp2
      go_ret
      exact ⟨by rw [HR.out]; rfl, hb1.trans (hbel.mono s1)⟩
end Go.Proofs.Ytbnlfljlomhngaa
