/- Meets of the reference (chapter 8). -/
import Derived.Test.YtbnlfljlomhngaaProg
import Derived.Test.YtbnlfljlomhngaaMatB
namespace Go.Proofs.Ytbnlfljlomhngaa
open Go.RowKit

theorem pref_slice {u v : ByteArray} (h : v.size ≤ u.size) : ((u.extract 0 v.size).toList == v.toList) = prefB u v := by
  rw [ByteArray.toList_eq, ByteArray.toList_eq]
  unfold prefB Lib.hasPrefix
  have hs : v.data.toList.length = v.size := by rw [Array.length_toList]; rfl
  have e : (u.extract 0 v.size).data.toList = u.data.toList.take v.data.toList.length := by
    rw [hs, ByteArray.data_extract, Array.toList_extract]
    simp
  rw [e, Bool.eq_iff_iff, List.isPrefixOf_iff_prefix, beq_iff_eq, List.prefix_iff_eq_take]
  exact eq_comm
theorem pref_short {u v : ByteArray} (h : ¬ v.size ≤ u.size) : prefB u v = false := by
  unfold prefB Lib.hasPrefix
  rw [Bool.eq_false_iff]
  intro hp
  have hl := (List.isPrefixOf_iff_prefix.1 hp).length_le
  rw [Array.length_toList, Array.length_toList] at hl
  exact h hl

/-- What the first k labels say of a name: the last one's value. -/
def LastK (l : List Lab) (n : ByteArray) (k : Nat) (o : Option ByteArray) : Prop := (o = none ∧ ∀ i, i < k → (labAt l i).1 ≠ n) ∨ ∃ i, i < k ∧ (labAt l i).1 = n ∧ o = some (labAt l i).2
theorem last_0 (l : List Lab) (n : ByteArray) : LastK l n 0 none := .inl ⟨rfl, fun i hi => absurd hi (by omega)⟩
theorem last_hit {l : List Lab} {n : ByteArray} {k : Nat} (h : (labAt l k).1 = n) : LastK l n (k + 1) (some (labAt l k).2) := .inr ⟨k, by omega, h, rfl⟩
theorem last_miss {l : List Lab} {n : ByteArray} {k : Nat} {o : Option ByteArray} (hl : LastK l n k o) (h : (labAt l k).1 ≠ n) : LastK l n (k + 1) o := by
  rcases hl with ⟨h1, h2⟩ | ⟨i, h1, h2, h3⟩
  · refine .inl ⟨h1, fun i hi => ?_⟩
    rcases Nat.lt_or_ge i k with h4 | h4
    · exact h2 i h4
    · obtain rfl : i = k := by omega
      exact h
  · exact .inr ⟨i, by omega, h2, h3⟩
theorem less_irrefl (a : ByteArray) : lessB a a = false := by
  unfold lessB
  rw [bytesLess_eq]
  exact dcf (List.lt_irrefl _)
theorem last_end {l : List Lab} {n : ByteArray} {o : Option ByteArray} (hr : rightB l = true) (h : LastK l n l.length o) : getB l n = o := by
  rcases h with ⟨rfl, h⟩ | ⟨i, hi, h2, rfl⟩
  · exact get_none h
  · refine get_hit hi (fun j hj e => ?_) h2
    have hp : rightP l := of_decide_eq_true hr
    have := chain i (fun k hk => hp.2 k (by omega)) j hj
    rw [e, h2, less_irrefl] at this
    cases this

theorem meetsR_bad {l : List Lab} {ms : List Mat} {k : Nat} (hk : k < ms.length) (h : oneB l (matAt ms k) = false) : meetsB l ms = false := by
  unfold meetsB okK
  have : (List.range ms.length).all (fun i => oneB l (matAt ms i)) = false := by
    rw [List.all_eq_false]
    exact ⟨k, List.mem_range.2 hk, by rw [h]; simp⟩
  rw [this, Bool.and_false, Bool.and_false]
theorem meetsR_no {l : List Lab} {ms : List Mat} (h : rightB l = false) : meetsB l ms = false := by
  unfold meetsB okK
  rw [h, Bool.false_and, Bool.and_false]

set_option maxRecDepth 100000 in
set_option maxHeartbeats 3200000 in
theorem meetsR_calls (w : World) {B B2 c c2 : Nat} {A A2 : Option Addr} {l : List Lab} {ms : List Mat} (h : Labs w B A l) (hB : B ≤ w.heap.size) (h2 : Mats w B2 A2 ms) (hB2 : B2 ≤ w.heap.size) (hf : Fit l) (hfm : ∀ m ∈ ms, FitM m) (hn : l.length ≤ 4398046511104) (hn2 : ms.length ≤ 4398046511104) :
    Calls Try.prog 24 #[.slice A l.length c, .slice A2 ms.length c2] w fun e w' => e = .returned (.bool (meetsB l ms)) ∧ Below w.heap.size w w' := by
  have hcall := rightR_calls w (c := c) h hf (by omega)
  have HFM : Hid (∀ k, k < ms.length → FitM (matAt ms k)) := Lib.hid fun k hk => by rw [← matAt_eq hk]; exact hfm _ (List.getElem_mem hk)
  have HF := Lib.hid (fit_at hf)
  clear hf hfm
  by_cases hr : rightB l = true
  case neg =>
    have hr : rightB l = false := by simpa using hr
    rw [hr] at hcall
    have HC := Lib.hid hcall
    have HR := Lib.hid (meetsR_no (ms := ms) hr)
    clear hcall hr
    go_enter Try.func24, Try.ntmps24
    go_wp2_with fail
    refine HC.out.mono ?_
    rintro e w1 ⟨rfl, hb1⟩
    go_wp2
    go_ret
    exact ⟨by rw [HR.out]; rfl, hb1⟩
  rw [hr] at hcall
  have HC := Lib.hid hcall
  have Hok0 : Hid (okK l ms 0 = true) := Lib.hid (by simp [okK, hr])
  have HLE : Hid (∀ n o, LastK l n l.length o → getB l n = o) := Lib.hid fun n o => last_end hr
  clear hcall hr
  go_enter Try.func24, Try.ntmps24
  go_wp2_with fail
  refine HC.out.mono ?_
  rintro e w1 ⟨rfl, hb1⟩
  have s1 := hb1.size
  have h1 := h.below (hb1.mono hB)
  have m1 := h2.below (hb1.mono hB2)
  clear HC h h2
  go_wp2
  go_loopw [17] (fun i wr => ∃ (k : Nat), k ≤ ms.length ∧ i = .int .i64 (k : Int) ∧ Hid (okK l ms k = true ∧ ∀ i, i < k → asksB (matAt ms i) = true) ∧ Below w1.heap.size w1 wr) (fun i _ => ms.length - (intOf i).toNat)
  case atStart => exact ⟨0, Nat.zero_le _, rfl, Lib.hid ⟨Hok0.out, fun i hi => absurd hi (by omega)⟩, Below.refl _ _⟩
  case round =>
    obtain ⟨k, hk, rfl, HK, hbel⟩ := hrel
    by_cases hlt : k < ms.length
    · obtain ⟨bm, off, rfl, hbB, hcell⟩ := (m1.below (hbel.mono (by omega))).cellAt (show 0 < ms.length by omega)
      obtain ⟨q0, q1, q2⟩ := hcell k hlt
      have hsz := hbel.size
      clear hcell
      have hfit := HFM.out k hlt
      have Hsucc := Lib.hid (okK_succ l ms k)
      have Hbad := Lib.hid fun ha => meets_bad (l := l) hlt ha
      have HbadR := Lib.hid fun ha => meetsR_bad (l := l) hlt ha
      have Hask := Lib.hid fun ha => asks_step HK.out.2 ha
      generalize hm : matAt ms k = m at *
      obtain ⟨n, way, v⟩ := m
      clear hm
      have hcase := asks_cases (n, way, v)
      have hfv := hfit.2
      simp only at hcase q0 q1 q2 hfv
      have hA := fun W => asksR_calls W n way v hfit
      have hkb := HK.out.1
      rcases hcase with ⟨ha, -⟩ | ⟨ha, -, -, hway⟩
      · rw [ha] at hA
        have HA := Lib.hid hA
        have HR := Lib.hid (Hbad.out ha)
        clear hA ha hkb
        go_wp2_with fail
        refine (HA.out _).mono ?_
        rintro e w3 ⟨rfl, hb3⟩
        go_wp2
        go_ret
        exact ⟨by rw [HR.out]; rfl, hb1.trans (((hbel.alloc hsz _).trans (hb3.mono (by simp; omega))).mono s1)⟩
      · rw [ha] at hA
        have HA := Lib.hid hA
        have HAs := Lib.hid (Hask.out ha)
        have HW := Lib.hid hway
        clear hA ha Hask Hbad hway
        go_wp2_with fail
        refine (HA.out _).mono ?_
        rintro e w3 ⟨rfl, hb3⟩
        have hbx := (Blk.new wr 42 #[.string n, .int .i64 way, .string v]).below hb3 (by simp)
        have hbel3 := (hbel.alloc hsz (.cells #[.string n, .int .i64 way, .string v] 42)).trans (hb3.mono (by simp; omega))
        generalize hgm : wr.heap.size = gm at *
        have s3 := hbx.lt
        have h3 := h1.below (hbel3.mono (by omega))
        clear hgm hb3 hbel q0 q1 q2
        go_wp2
        go_loopw [7, 8, 9, 26] (fun a b d i wj => ∃ (j : Nat) (o : Option ByteArray), j ≤ l.length ∧ i = .int .i64 (j : Int) ∧ Hid (a = .bool o.isSome ∧ b = .bool (eqO o v) ∧ d = .bool (prefO o v) ∧ LastK l n j o) ∧ Below w3.heap.size w3 wj) (fun _ _ _ i _ => l.length - (intOf i).toNat)
        case atStart => exact ⟨0, none, Nat.zero_le _, rfl, Lib.hid ⟨rfl, rfl, rfl, last_0 l n⟩, Below.refl _ _⟩
        case round =>
          obtain ⟨j, o, hj, rfl, HO, hbelj⟩ := hrel
          by_cases hjl : j < l.length
          · obtain ⟨bl, offl, rfl, hblB, hcl⟩ := (h3.below (hbelj.mono (by omega))).cellAt (show 0 < l.length by omega)
            obtain ⟨p0, p1⟩ := hcl j hjl
            clear hcl
            have hszj := hbelj.size
            have hbxj := hbx.below hbelj s3
            have hux := (HF.out j).2
            by_cases he : (labAt l j).1 = n
            · have HL2 := Lib.hid (last_hit he)
              have q : ((labAt l j).1.toList == n.toList) = true := by rw [he]; exact beq_self_eq_true _
              clear he
              generalize labAt l j = x at *
              have hbxa := hbxj.alloc (.cells #[.string x.1, .string x.2] 37)
              have y0 := hbxa.cell 0
              have y2 := hbxa.cell 2
              simp only [List.getElem?_toArray, List.getElem?_cons_zero, List.getElem?_cons_succ] at y0 y2
              have Hcel : Hid ((x.2.toList == v.toList) = eqO (some x.2) v) := Lib.hid (bytes_eqd _ _)
              by_cases hle : v.size ≤ x.2.size
              · have hps : ((x.2.extract 0 v.size).toList == v.toList) = prefO (some x.2) v := pref_slice hle
                have d1 : decide ((v.size : Int) ≤ (x.2.size : Int)) = true := dct (by omega)
                generalize hE : eqO (some x.2) v = ee at *
                generalize hP : prefO (some x.2) v = pp at *
                have hce := Hcel.out
                have HEE := Lib.hid hE
                have HPP := Lib.hid hP
                clear hE hP
                go_wp2_with fail
                go_quiet (fail)
                go_wp2
                go_roundw
                case rel => exact ⟨j + 1, some x.2, by omega, by go_num, Lib.hid ⟨rfl, by rw [HEE.out], by rw [HPP.out], HL2.out⟩, below_drewN_ (hbelj.alloc hszj _) _⟩
                case measure => simp [intOf]; omega
              · have HPP : Hid (prefO (some x.2) v = false) := Lib.hid (pref_short hle)
                have d1 : decide ((v.size : Int) ≤ (x.2.size : Int)) = false := dcf (by omega)
                generalize hE : eqO (some x.2) v = ee at *
                have hce := Hcel.out
                have HEE := Lib.hid hE
                clear hE
                go_wp2_with fail
                go_quiet (fail)
                go_wp2
                go_roundw
                case rel => exact ⟨j + 1, some x.2, by omega, by go_num, Lib.hid ⟨rfl, by rw [HEE.out], by rw [HPP.out], HL2.out⟩, below_drewN_ (hbelj.alloc hszj _) _⟩
                case measure => simp [intOf]; omega
            · have HL2 := Lib.hid (last_miss HO.out.2.2.2 he)
              have q : ((labAt l j).1.toList == n.toList) = false := by rw [bytes_eqd]; exact dcf he
              clear he
              generalize labAt l j = x at *
              have hbxa := hbxj.alloc (.cells #[.string x.1, .string x.2] 37)
              have y0 := hbxa.cell 0
              simp only [List.getElem?_toArray, List.getElem?_cons_zero, List.getElem?_cons_succ] at y0
              go_wp2
              go_roundw
              case rel => exact ⟨j + 1, o, by omega, by go_num, Lib.hid ⟨HO.out.1, HO.out.2.1, HO.out.2.2.1, HL2.out⟩, hbelj.alloc hszj _⟩
              case measure => simp [intOf]; omega
          · obtain rfl : j = l.length := by omega
            obtain ⟨rfl, rfl, rfl, hlast⟩ := HO.out
            have hg := HLE.out n o hlast
            have hbel4 := hbel3.trans (hbelj.mono (by omega))
            have hbxj := hbx.below hbelj s3
            have y1 := hbxj.cell 1
            simp only [List.getElem?_toArray, List.getElem?_cons_zero, List.getElem?_cons_succ] at y1
            have hsum : ∃ t : Bool, oneB l (n, way, v) = t ∧ ((way = 1 ∧ eqO o v = t) ∨ (way = 2 ∧ (!eqO o v) = t) ∨ (way = 3 ∧ prefO o v = t) ∨ (way = 4 ∧ o.isSome = t)) := by
              refine ⟨_, rfl, ?_⟩
              rw [← hg]
              rcases HW.out with rfl | rfl | rfl | ⟨rfl, -⟩
              · exact .inl ⟨rfl, rfl⟩
              · exact .inr (.inl ⟨rfl, rfl⟩)
              · exact .inr (.inr (.inl ⟨rfl, rfl⟩))
              · exact .inr (.inr (.inr ⟨rfl, rfl⟩))
            obtain ⟨t, ht, hw⟩ := hsum
            have HS : Hid (okK l ms (k + 1) = t) := Lib.hid (by rw [Hsucc.out, hkb, ht]; rfl)
            have HT : Hid (t = false → meetsB l ms = false) := Lib.hid fun h => HbadR.out (ht.trans h)
            clear ht hg hlast Hsucc HbadR HO HLE HW
            generalize eqO o v = ee at *
            generalize prefO o v = pp at *
            generalize o.isSome = ss at *
            rcases hw with ⟨rfl, rfl⟩ | ⟨rfl, hw⟩ | ⟨rfl, rfl⟩ | ⟨rfl, rfl⟩
            · cases ee
              · have HR := Lib.hid (HT.out rfl)
                go_wp2
                go_ret
                exact ⟨by rw [HR.out]; rfl, hb1.trans (hbel4.mono s1)⟩
              · go_wp2
                go_roundw
                case rel => exact ⟨k + 1, by omega, by go_num, Lib.hid ⟨HS.out, HAs.out⟩, hbel4⟩
                case measure => simp [intOf]; omega
            · cases ee
              · subst hw
                go_wp2
                go_roundw
                case rel => exact ⟨k + 1, by omega, by go_num, Lib.hid ⟨HS.out, HAs.out⟩, hbel4⟩
                case measure => simp [intOf]; omega
              · subst hw
                have HR := Lib.hid (HT.out rfl)
                go_wp2
                go_ret
                exact ⟨by rw [HR.out]; rfl, hb1.trans (hbel4.mono s1)⟩
            · cases pp
              · have HR := Lib.hid (HT.out rfl)
                go_wp2
                go_ret
                exact ⟨by rw [HR.out]; rfl, hb1.trans (hbel4.mono s1)⟩
              · go_wp2
                go_roundw
                case rel => exact ⟨k + 1, by omega, by go_num, Lib.hid ⟨HS.out, HAs.out⟩, hbel4⟩
                case measure => simp [intOf]; omega
            · cases ss
              · have HR := Lib.hid (HT.out rfl)
                go_wp2
                go_ret
                exact ⟨by rw [HR.out]; rfl, hb1.trans (hbel4.mono s1)⟩
              · go_wp2
                go_roundw
                case rel => exact ⟨k + 1, by omega, by go_num, Lib.hid ⟨HS.out, HAs.out⟩, hbel4⟩
                case measure => simp [intOf]; omega
    · obtain rfl : k = ms.length := by omega
      have HR := Lib.hid (meets_end HK.out.2 HK.out.1)
      go_wp2
      go_ret
      exact ⟨by rw [HR.out]; rfl, hb1.trans (hbel.mono s1)⟩
end Go.Proofs.Ytbnlfljlomhngaa
