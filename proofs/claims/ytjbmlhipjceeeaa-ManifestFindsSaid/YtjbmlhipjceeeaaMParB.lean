/- Reading a value: digit and value of the code (chapter 8). -/
import Derived.Test.YtjbmlhipjceeeaaProg
import Derived.Test.YtjbmlhipjceeeaaMParA
import Derived.Test.YtjbmlhipjceeeaaMLabV
namespace Go.Proofs.Ytjbmlhipjceeeaa.Lb
open Go.RowKit

theorem drop8 {s : ByteArray} {q : Nat} (h : q < s.size) : s.data.toList.drop q = at8 s q :: s.data.toList.drop (q + 1) := by
  have hl : q < s.data.toList.length := by rw [Array.length_toList]; exact h
  rw [List.drop_eq_getElem_cons hl]
  simp [at8, List.getD, List.getElem?_eq_getElem hl]
def hexV (c : UInt8) : Int := if 48 ≤ c.toNat ∧ c.toNat ≤ 57 then (c.toNat : Int) - 48 else if 97 ≤ c.toNat ∧ c.toNat ≤ 102 then (c.toNat : Int) - 87 else -1
theorem hexV_dig : ∀ k, k < 16 → hexV (dig16 k) = (k : Int) := by decide +kernel
theorem hexV_lt (c : UInt8) : hexV c < 16 := by unfold hexV; split; omega; split <;> omega
theorem dig_hexV (c : UInt8) (h : 0 ≤ hexV c) : dig16 (hexV c).toNat = c := by
  have : ∀ n, n < 256 → 0 ≤ hexV (UInt8.ofNat n) → dig16 (hexV (UInt8.ofNat n)).toNat = UInt8.ofNat n := by decide +kernel
  have h2 := this c.toNat (UInt8.toNat_lt c)
  rw [UInt8.ofNat_toNat] at h2
  exact h2 h
set_option maxRecDepth 100000 in
theorem digit_calls (c : UInt8) (w : World) : Calls Try.prog 81 #[.int .u8 (c.toNat : Int)] w fun e w' => e = .returned (.int .i64 (hexV c)) ∧ w = w' := by
  have hc8 := UInt8.toNat_lt c
  have hcase : (48 ≤ (c.toNat : Int) ∧ (c.toNat : Int) ≤ 57 ∧ hexV c = (c.toNat : Int) - 48) ∨ ((c.toNat : Int) < 48 ∧ hexV c = -1) ∨ (48 ≤ (c.toNat : Int) ∧ 57 < (c.toNat : Int) ∧ (c.toNat : Int) < 97 ∧ hexV c = -1) ∨ (48 ≤ (c.toNat : Int) ∧ 57 < (c.toNat : Int) ∧ 97 ≤ (c.toNat : Int) ∧ (c.toNat : Int) ≤ 102 ∧ hexV c = (c.toNat : Int) - 87) ∨ (48 ≤ (c.toNat : Int) ∧ 57 < (c.toNat : Int) ∧ 97 ≤ (c.toNat : Int) ∧ 102 < (c.toNat : Int) ∧ hexV c = -1) := by
    unfold hexV
    split
    · omega
    · split <;> omega
  rcases hcase with ⟨h1, h2, h⟩ | ⟨h1, h⟩ | ⟨h1, h2, h3, h⟩ | ⟨h1, h2, h3, h4, h⟩ | ⟨h1, h2, h3, h4, h⟩
  all_goals
    have HX := Lib.hid h
    clear h
    try (have d57 : decide ((c.toNat : Int) ≤ 57) = true := dct (by omega))
    try (have e57 : decide ((c.toNat : Int) ≤ 57) = false := dcf (by omega))
    try (have d102 : decide ((c.toNat : Int) ≤ 102) = true := dct (by omega))
    try (have e102 : decide ((c.toNat : Int) ≤ 102) = false := dcf (by omega))
    try (have w1 : IntKind.u8.wrap ((c.toNat : Int) - 48) = (c.toNat : Int) - 48 := by rw [IntKind.wrap_u8]; omega)
    try (have w2 : IntKind.u8.wrap ((c.toNat : Int) - 97) = (c.toNat : Int) - 97 := by rw [IntKind.wrap_u8]; omega)
    go_enter Try.func81, Try.ntmps81
    go_wp2
    go_ret
    exact ⟨by rw [HX.out]; first | rfl | exact congrArg (fun z => Ending.returned (.int .i64 z)) (show (c.toNat : Int) - 97 + 10 = (c.toNat : Int) - 87 by omega), rfl⟩

/-! ### One written byte -/
def NoRd (X : List UInt8) : Prop := ∀ c r, X ≠ escB c ++ r
theorem noRd_nil : NoRd [] := fun c r h => by
  have h2 := escB_ne c
  have := congrArg List.length h
  have h3 := List.length_pos_iff.2 h2
  simp at this
  omega
theorem noRd_bad {c : UInt8} {X : List UInt8} (h1 : plainB c = false) (h2 : c ≠ 92) : NoRd (c :: X) := fun d r h => by
  cases hd : plainB d
  · rw [escB_hex hd] at h; simp only [List.cons_append, List.cons.injEq] at h; exact h2 h.1
  · rw [escB_plain hd] at h; simp only [List.cons_append, List.cons.injEq] at h; rw [h.1, hd] at h1; cases h1
theorem esc92 {d : UInt8} {X r : List UInt8} (h : 92 :: X = escB d ++ r) : plainB d = false ∧ X = dig16 (d.toNat / 16) :: dig16 (d.toNat % 16) :: r := by
  cases hd : plainB d
  · rw [escB_hex hd] at h; simp only [List.cons_append, List.cons.injEq, List.nil_append, true_and] at h; exact ⟨rfl, h⟩
  · rw [escB_plain hd] at h; simp only [List.cons_append, List.cons.injEq] at h; exact absurd h.1.symm (plain_ne hd).2
theorem noRd_short {X : List UInt8} (h : X.length < 2) : NoRd (92 :: X) := fun d r he => by
  have := congrArg List.length (esc92 he).2
  simp at this
  omega
theorem noRd_d1 {a : UInt8} {X : List UInt8} (h : hexV a < 0) : NoRd (92 :: a :: X) := fun d r he => by
  have h2 := (esc92 he).2
  simp only [List.cons.injEq] at h2
  have := hexV_dig (d.toNat / 16) (by have := UInt8.toNat_lt d; omega)
  rw [← h2.1] at this
  omega
theorem noRd_d2 {a b : UInt8} {X : List UInt8} (h : hexV b < 0) : NoRd (92 :: a :: b :: X) := fun d r he => by
  have h2 := (esc92 he).2
  simp only [List.cons.injEq] at h2
  have := hexV_dig (d.toNat % 16) (by omega)
  rw [← h2.2.1] at this
  omega
/-- The byte of two digits. -/
def hexB (a b : UInt8) : UInt8 := UInt8.ofNat (16 * (hexV a).toNat + (hexV b).toNat)
theorem hexB_nat {a b : UInt8} (h1 : 0 ≤ hexV a) (h2 : 0 ≤ hexV b) : ((hexB a b).toNat : Int) = 16 * hexV a + hexV b := by
  have b1 := hexV_lt a
  have b2 := hexV_lt b
  unfold hexB
  rw [UInt8.toNat_ofNat']
  omega
theorem noRd_plain {a b : UInt8} {X : List UInt8} (h1 : 0 ≤ hexV a) (h2 : 0 ≤ hexV b) (h : plainB (hexB a b) = true) : NoRd (92 :: a :: b :: X) := fun d r he => by
  obtain ⟨h3, h4⟩ := esc92 he
  simp only [List.cons.injEq] at h4
  have e1 := hexV_dig (d.toNat / 16) (by have := UInt8.toNat_lt d; omega)
  have e2 := hexV_dig (d.toNat % 16) (by omega)
  rw [← h4.1] at e1
  rw [← h4.2.1] at e2
  have e3 := hexB_nat h1 h2
  have : hexB a b = d := UInt8.toNat_inj.1 (by omega)
  rw [this, h3] at h
  cases h
theorem rd_hex {a b : UInt8} {X : List UInt8} (h1 : 0 ≤ hexV a) (h2 : 0 ≤ hexV b) (h : plainB (hexB a b) = false) : 92 :: a :: b :: X = escB (hexB a b) ++ X := by
  have e3 := hexB_nat h1 h2
  have b1 := hexV_lt a
  have b2 := hexV_lt b
  rw [escB_hex h, show (hexB a b).toNat / 16 = (hexV a).toNat by omega, show (hexB a b).toNat % 16 = (hexV b).toNat by omega, dig_hexV a h1, dig_hexV b h2]
  rfl
theorem escB_len13 (c : UInt8) : (escB c).length = if plainB c = true then 1 else 3 := by unfold escB; split <;> rfl
/-- Where no written byte is, and no mark of the end, no value is. -/
theorem noVal {X : List UInt8} (h : NoRd X) (h34 : ∀ r, X ≠ 34 :: r) (v r : List UInt8) : X ≠ valT v ++ 34 :: r := by
  cases v with
  | nil => exact h34 r
  | cons d v => rw [valT_cons, List.append_assoc]; exact h d _
theorem valT_ext : ∀ {u v X r : List UInt8}, valT u ++ X = valT v ++ 34 :: r → ∃ v', v = u ++ v' ∧ X = valT v' ++ 34 :: r
  | [], v, X, r, h => ⟨v, rfl, by simpa [valT] using h⟩
  | c :: u, [], X, r, h => by
    rw [valT_cons, List.append_assoc] at h
    exact absurd h (fun h' => escB_34 h')
  | c :: u, d :: v, X, r, h => by
    rw [valT_cons, valT_cons, List.append_assoc, List.append_assoc] at h
    obtain ⟨rfl, h2⟩ := escB_pre h
    obtain ⟨v', rfl, h3⟩ := valT_ext h2
    exact ⟨v', rfl, h3⟩

/-- Of a value that is read from p on: the bytes u up to q. -/
def Upto (S : List UInt8) (p : Nat) (u : List UInt8) (q : Nat) : Prop := S.drop p = valT u ++ S.drop q ∧ q = p + (valT u).length
theorem Upto.start (S : List UInt8) (p : Nat) : Upto S p [] p := ⟨rfl, rfl⟩
theorem Upto.next {S : List UInt8} {p q : Nat} {u : List UInt8} (h : Upto S p u q) {c : UInt8} {m : Nat} (hm : (escB c).length = m) (he : S.drop q = escB c ++ S.drop (q + m)) : Upto S p (u ++ [c]) (q + m) := by
  refine ⟨?_, ?_⟩
  · rw [valT_snoc, h.1, he, List.append_assoc]
  · rw [valT_snoc, List.length_append, hm, h.2]; omega
theorem Upto.none {S : List UInt8} {p q : Nat} {u : List UInt8} (h : Upto S p u q) (hn : NoRd (S.drop q)) (h34 : ∀ r, S.drop q ≠ 34 :: r) : ∀ v r, S.drop p ≠ valT v ++ 34 :: r := fun v r he => by
  rw [h.1] at he
  obtain ⟨v', _, h2⟩ := valT_ext he
  exact noVal hn h34 v' r h2
theorem Upto.done {S : List UInt8} {p q : Nat} {u : List UInt8} (h : Upto S p u q) (he : S.drop q = 34 :: S.drop (q + 1)) : S.drop p = valT u ++ 34 :: S.drop (q + 1) := by rw [h.1, he]
theorem valT_ge : ∀ v : List UInt8, v.length ≤ (valT v).length
  | [] => Nat.zero_le _
  | c :: v => by
    have h1 := valT_ge v
    have h2 := List.length_pos_iff.2 (escB_ne c)
    rw [valT_cons, List.length_append, List.length_cons]
    omega

/-- What 'value' answers at place p. -/
def ValRet (S : List UInt8) (p : Nat) (e : Ending) : Prop :=
  (∃ v : List UInt8, e = .returned (.tuple #[.string ⟨v.toArray⟩, .int .i64 ((p + (valT v).length + 1 : Nat) : Int), .bool true]) ∧ S.drop p = valT v ++ 34 :: S.drop (p + (valT v).length + 1) ∧ p + (valT v).length < S.length) ∨
  (∃ (x : ByteArray) (k : Int), e = .returned (.tuple #[.string x, .int .i64 k, .bool false]) ∧ ∀ v r, S.drop p ≠ valT v ++ 34 :: r)

set_option maxRecDepth 100000 in
set_option maxHeartbeats 3200000 in
theorem value_calls (s : ByteArray) (p : Nat) (w : World) (hp : p ≤ s.size) (hs : s.size ≤ 1000000) :
    Calls Try.prog 65 #[.string s, .int .i64 (p : Int)] w fun e w' => ValRet s.data.toList p e ∧ Below w.heap.size w w' := by
  have HSZ : Hid (s.data.toList.length = s.size) := Lib.hid (by rw [Array.length_toList]; rfl)
  have HD := Lib.hid (fun (c : UInt8) (W : World) => digit_calls c W)
  have HP := Lib.hid (fun (c : UInt8) (W : World) => plain_calls c W)
  go_enter Try.func65, Try.ntmps65
  go_wp2
  go_loopw [1, 7] (fun a o wr => ∃ (q : Nat) (u : List UInt8), q ≤ s.size ∧ a = .int .i64 (q : Int) ∧ u.length ≤ 2000000 ∧ Hid (Upto s.data.toList p u q) ∧ wr.ownsRow w.heap.size 5 1 o u.length (u.map byteV) ∧ Below w.heap.size w wr) (fun a _ _ => s.size - (intOf a).toNat)
  case atStart => exact ⟨p, [], hp, rfl, by simp, Lib.hid (Upto.start _ _), World.ownsRow_nil _ _ _ _, Below.refl _ _⟩
  case round =>
    obtain ⟨q, u, hq, rfl, hul, HU, hown, hbel⟩ := hrel
    have hsz := hbel.size
    by_cases hlt : q < s.size
    · have Hdr := Lib.hid (drop8 hlt)
      have Hc := Lib.hid (at8_eq hlt)
      by_cases h34 : ((s[q].toNat : Int) == 34) = true
      · have HE : Hid (s.data.toList.drop p = valT u ++ 34 :: s.data.toList.drop (q + 1)) := Lib.hid (by
          refine HU.out.done ?_
          rw [Hdr.out, ← Hc.out]
          congr 1
          rw [beq_iff_eq] at h34
          exact UInt8.toNat_inj.1 (by show s[q].toNat = 34; omega))
        obtain ⟨A, co, rfl, -, -, hrd⟩ := own_slice hown
        have hconv := fun W (hW : Below wr.heap.size wr W) => (Bytes.of (hrd.below hW)).conv Try.prog co 117 5 9 Try.underlying117 Try.underlying5 Try.underlying9
        have hcv := hconv wr (Below.refl _ _)
        have hnf : ((s[q].toNat : Int) != 34) = false := by simpa using h34
        clear h34 hconv
        go_wp2
        go_ret3
        refine ⟨.inl ⟨u, ?_, ?_, ?_⟩, hbel⟩
        · have e : ((p + (valT u).length + 1 : Nat) : Int) = (q : Int) + 1 := by have := HU.out.2; omega
          rw [e]
          rfl
        · rw [← HU.out.2]; exact HE.out
        · rw [← HU.out.2, HSZ.out]; exact hlt
      · have hnf : ((s[q].toNat : Int) != 34) = true := by simpa using h34
        have Hh34 : Hid (∀ r, s.data.toList.drop q ≠ 34 :: r) := Lib.hid (fun r hr => by
          rw [Hdr.out, ← Hc.out] at hr
          simp only [List.cons.injEq] at hr
          rw [hr.1] at h34
          exact h34 rfl)
        have hul : u.length ≤ s.size := by have h1 := HU.out.2; have h2 := valT_ge u; omega
        clear h34
        by_cases h92 : ((s[q].toNat : Int) == 92) = true
        · have hc92 : at8 s q = 92 := by
            rw [← Hc.out]
            rw [beq_iff_eq] at h92
            exact UInt8.toNat_inj.1 (by show s[q].toNat = 92; omega)
          rw [hc92] at Hdr
          have Hno : Hid (NoRd (s.data.toList.drop q) → ∀ v r, s.data.toList.drop p ≠ valT v ++ 34 :: r) := Lib.hid fun h => HU.out.none h Hh34.out
          clear hc92
          by_cases h2 : s.size ≤ q + 2
          · have HN := Lib.hid (Hno.out (by rw [Hdr.out]; exact noRd_short (by rw [List.length_drop, HSZ.out]; omega)))
            have i1 : (s.size : Int) ≤ (q : Int) + 1 + 1 := by omega
            clear h2
            go_wp2
            go_ret3
            exact ⟨.inr ⟨_, _, rfl, HN.out⟩, hbel⟩
          · have i1 : (q : Int) + 1 + 1 < (s.size : Int) := by omega
            have j1 : q + 1 < s.size := by omega
            have j2 : q + 2 < s.size := by omega
            have Hd1 := Lib.hid (drop8 j1)
            have Hd2 := Lib.hid (drop8 j2)
            have Hc1 := Lib.hid (at8_eq j1)
            have Hc2 := Lib.hid (at8_eq j2)
            have Hfull : Hid (s.data.toList.drop q = 92 :: s[q + 1] :: s[q + 2] :: s.data.toList.drop (q + 3)) := Lib.hid (by rw [Hdr.out, Hd1.out, Hd2.out, Hc1.out, Hc2.out])
            have e1 : ((q : Int) + 1).toNat = q + 1 := by omega
            have e2 : ((q : Int) + 1 + 1).toNat = q + 2 := by omega
            have l1 : hexV s[q + 1] < 16 := hexV_lt _
            have l2 : hexV s[q + 2] < 16 := hexV_lt _
            have HD1 := Lib.hid (fun W => HD.out s[q + 1] W)
            have HD2 := Lib.hid (fun W => HD.out s[q + 2] W)
            clear h2 Hd1 Hd2 Hc1 Hc2
            by_cases g1 : hexV s[q + 1] < 0
            · have HN := Lib.hid (Hno.out (by rw [Hfull.out]; exact noRd_d1 g1))
              go_wp2_with fail
              refine (HD1.out _).mono ?_
              rintro e w1 ⟨rfl, rfl⟩
              go_wp2
              go_ret3
              exact ⟨.inr ⟨_, _, rfl, HN.out⟩, hbel⟩
            · have g1' : 0 ≤ hexV s[q + 1] := by omega
              by_cases g2 : hexV s[q + 2] < 0
              · have HN := Lib.hid (Hno.out (by rw [Hfull.out]; exact noRd_d2 g2))
                have d2 := dct g2
                go_wp2_with fail
                refine (HD1.out _).mono ?_
                rintro e w1 ⟨rfl, rfl⟩
                go_wp2_with fail
                refine (HD2.out _).mono ?_
                rintro e w1 ⟨rfl, rfl⟩
                go_wp2
                go_ret3
                exact ⟨.inr ⟨_, _, rfl, HN.out⟩, hbel⟩
              · have g2' : 0 ≤ hexV s[q + 2] := by omega
                have d2 := dcf g2
                have Hnp := Lib.hid (fun (h : plainB (hexB s[q + 1] s[q + 2]) = true) => Hno.out (by rw [Hfull.out]; exact noRd_plain g1' g2' h))
                have Hup := Lib.hid (fun (h : plainB (hexB s[q + 1] s[q + 2]) = false) => HU.out.next (c := hexB s[q + 1] s[q + 2]) (m := 3) (by rw [escB_len13, h]; rfl) (by rw [Hfull.out]; exact rd_hex g1' g2' h))
                have hxn := hexB_nat g1' g2'
                have k1 : IntKind.i64.wrap (16 * hexV s[q + 1]) = 16 * hexV s[q + 1] := IntWalk.i64_in _ (by omega)
                have k2 : IntKind.i64.wrap (16 * hexV s[q + 1] + hexV s[q + 2]) = 16 * hexV s[q + 1] + hexV s[q + 2] := IntWalk.i64_in _ (by omega)
                have k3 : IntKind.u8.wrap (16 * hexV s[q + 1] + hexV s[q + 2]) = ((hexB s[q + 1] s[q + 2]).toNat : Int) := by
                  have := UInt8.toNat_lt (hexB s[q + 1] s[q + 2])
                  rw [IntKind.wrap_u8]
                  omega
                have k4 : IntKind.i64.wrap ((q : Int) + 1 + 1) = (q : Int) + 1 + 1 := IntWalk.i64_in _ (by omega)
                have HPc := Lib.hid (fun W => HP.out (hexB s[q + 1] s[q + 2]) W)
                clear hxn
                generalize hexB s[q + 1] s[q + 2] = x at *
                generalize hpx : plainB x = px at *
                go_wp2_with fail
                refine (HD1.out _).mono ?_
                rintro e w1 ⟨rfl, rfl⟩
                go_wp2_with fail
                refine (HD2.out _).mono ?_
                rintro e w1 ⟨rfl, rfl⟩
                go_wp2_with fail
                go_quiet ((go_at_call 81; exact quiet_left (HD.out _ _)))
                clear k1 k2 k3 k4 hpx
                cases px
                · have Hup2 := Lib.hid (Hup.out rfl)
                  clear Hup Hnp
                  go_wp2_with fail
                  refine (HPc.out _).mono ?_
                  rintro e w1 ⟨rfl, rfl⟩
                  go_wp2_with (at_builtin; go_must (refine wpList_push _ rfl (.tmp 65) (.tmp 67) _ rfl w.heap.size 5 _ 1 Try.underlying117 Try.infoU8b rfl _ _ _ _ _ rfl rfl (own_drewN hown _) rfl (by unfold maxLen; omega) (by omega) hsz ?_))
                  intro v' w1 hown' hbel' _ _
                  have hown2 := own_snoc hown' rfl
                  clear hown' hown
                  go_wp2
                  go_roundw
                  case rel => exact ⟨q + 3, u ++ [x], by omega, by go_num, by simp; omega, Hup2, hown2, (below_drewN_ hbel _).trans (hbel'.mono (Nat.le_refl _))⟩
                  case measure => simp [intOf]; omega
                · have HN := Lib.hid (Hnp.out rfl)
                  clear Hup Hnp
                  go_wp2_with fail
                  refine (HPc.out _).mono ?_
                  rintro e w1 ⟨rfl, rfl⟩
                  go_wp2
                  go_ret3
                  exact ⟨.inr ⟨_, _, rfl, HN.out⟩, below_drewN_ hbel _⟩
        · have hn92 : at8 s q ≠ 92 := fun e => by
            rw [← Hc.out] at e
            rw [e] at h92
            exact h92 rfl
          have h92' : ((s[q].toNat : Int) == 92) = false := by simpa using h92
          have Hup := Lib.hid (fun (h : plainB s[q] = true) => HU.out.next (c := s[q]) (m := 1) (by rw [escB_len13, h]; rfl) (by rw [Hdr.out, ← Hc.out, escB_plain h]; rfl))
          have Hnp := Lib.hid (fun (h : plainB s[q] = false) => HU.out.none (by rw [Hdr.out, ← Hc.out]; exact noRd_bad h (by rw [Hc.out]; exact hn92)) Hh34.out)
          have HPc := Lib.hid (fun W => HP.out s[q] W)
          clear h92 hn92
          generalize hpx : plainB s[q] = px at *
          clear hpx
          cases px
          · have HN := Lib.hid (Hnp.out rfl)
            clear Hup Hnp
            go_wp2_with fail
            refine (HPc.out _).mono ?_
            rintro e w1 ⟨rfl, rfl⟩
            go_wp2
            go_ret3
            exact ⟨.inr ⟨_, _, rfl, HN.out⟩, hbel⟩
          · have Hup2 := Lib.hid (Hup.out rfl)
            clear Hup Hnp
            go_wp2_with fail
            refine (HPc.out _).mono ?_
            rintro e w1 ⟨rfl, rfl⟩
            go_wp2_with (at_builtin; go_must (refine wpList_push _ rfl (.tmp 65) (.tmp 67) _ rfl w.heap.size 5 _ 1 Try.underlying117 Try.infoU8b rfl _ _ _ _ _ rfl rfl hown rfl (by unfold maxLen; omega) (by omega) hsz ?_))
            intro v' w1 hown' hbel' _ _
            have hown2 := own_snoc hown' rfl
            clear hown' hown
            go_wp2
            go_roundw
            case rel => exact ⟨q + 1, u ++ [s[q]], by omega, by go_num, by simp; omega, Hup2, hown2, hbel.trans hbel'⟩
            case measure => simp [intOf]; omega
    · obtain rfl : q = s.size := by omega
      have HN : Hid (∀ v r, s.data.toList.drop p ≠ valT v ++ 34 :: r) := Lib.hid (by
        have e : s.data.toList.drop s.size = [] := List.drop_eq_nil_of_le (by rw [HSZ.out]; omega)
        exact HU.out.none (by rw [e]; exact noRd_nil) (fun r h => by rw [e] at h; cases h))
      obtain ⟨A, co, rfl, -, -, hrd⟩ := own_slice hown
      have hcv := (Bytes.of hrd).conv Try.prog co 117 5 9 Try.underlying117 Try.underlying5 Try.underlying9
      go_wp2
      go_ret3
      exact ⟨.inr ⟨_, _, rfl, HN.out⟩, hbel⟩
end Go.Proofs.Ytjbmlhipjceeeaa.Lb
