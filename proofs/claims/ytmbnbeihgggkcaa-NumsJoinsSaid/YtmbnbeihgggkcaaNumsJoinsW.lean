/- The walk of NumsJoins: numbers that are put one behind the other are read one behind the other, to the very end. -/
import Derived.Test.YtmbnbeihgggkcaaCur
import Derived.Test.YtmbnbeihgggkcaaNumQ
import Derived.Test.YtmbnbeihgggkcaaOpen
namespace Go.Proofs.Ytmbnbeihgggkcaa.lawNumsJoins
open Go.RowKit

/-- The bytes of numbers, one behind the other. -/
def joined : List Nat → List UInt8
  | [] => []
  | n :: r => putU n ++ joined r
theorem joined_snoc : ∀ (l : List Nat) (n : Nat), joined (l ++ [n]) = joined l ++ putU n
  | [], n => by simp [joined]
  | m :: r, n => by simp [joined, joined_snoc r n]
theorem joined_app : ∀ (l r : List Nat), joined (l ++ r) = joined l ++ joined r
  | [], r => by simp [joined]
  | m :: l, r => by simp [joined, joined_app l r]
theorem joined_len : ∀ l : List Nat, (∀ n ∈ l, n ≤ 18446744073709551615) → (joined l).length ≤ 10 * l.length
  | [], _ => by simp [joined]
  | n :: r, h => by
    have h1 := putU_len10 (h n List.mem_cons_self)
    have h2 := joined_len r (fun m hm => h m (List.mem_cons_of_mem _ hm))
    simp only [joined, List.length_append, List.length_cons]
    omega
theorem take_snoc_ {l : List Nat} {k : Nat} (h : k < l.length) : l.take (k + 1) = l.take k ++ [l[k]] := List.take_succ_eq_append_getElem h

theorem curU_joined {l : List Nat} (hl : ∀ n ∈ l, n ≤ 18446744073709551615) {k : Nat} (hk : k < l.length) :
    curU (joined l) (joined (l.take k)).length 0 = (l[k], (joined (l.take (k + 1))).length, 0) := by
  have e : l = l.take k ++ l[k] :: l.drop (k + 1) := by rw [← List.drop_eq_getElem_cons hk, List.take_append_drop]
  have hn := hl l[k] (List.getElem_mem hk)
  have hp := putU_pos l[k]
  have ej : joined l = joined (l.take k) ++ (putU l[k] ++ joined (l.drop (k + 1))) := by
    conv => lhs; rw [e]
    rw [joined_app]; rfl
  have hr : readU (joined l) ((joined (l.take k)).length : Int) = (l[k], (putU l[k]).length, 0) := by
    unfold readU
    rw [if_neg (by rw [ej]; simp; omega), Int.toNat_natCast]
    have : (joined l).drop (joined (l.take k)).length = putU l[k] ++ joined (l.drop (k + 1)) := by rw [ej, List.drop_left]
    rw [this, readAt_putU hn]
  unfold curU
  rw [if_neg (by omega), hr, take_snoc_ hk, joined_snoc, List.length_append]

theorem putU_5 : putU 5 = [5] := by rw [putU_lt (by omega)]; rfl

/-- A slice of numbers reads. -/
def U64s (w : World) (B : Nat) (A : Option Addr) (l : List Nat) : Prop := Reads w B 1 A l.length (l.map fun n : Nat => Value.int .u64 (n : Int))

theorem U64s.cell {w : World} {B : Nat} {A : Option Addr} {l : List Nat} (h : U64s w B A l) {i : Nat} (hi : i < l.length) : ∃ b off, A = some ⟨b, off, none⟩ ∧ b < B ∧ ∀ j (hj : j < l.length), w.cell? ⟨b, off + j, none⟩ = some (.int .u64 (l[j] : Nat)) := by
  obtain ⟨b, off, e, hb, hc⟩ := h.2 (by omega)
  refine ⟨b, off, e, hb, fun j hj => hc j _ ?_⟩
  rw [List.getElem?_map, List.getElem?_eq_getElem hj]
  rfl

theorem u64s_reads {w : World} {B : Nat} {A : Option Addr} {l : List Nat} (h : U64s w B A l) {w' : World} (hb : Below B w w') : U64s w' B A l := Reads.below h hb

set_option maxRecDepth 100000 in
set_option maxHeartbeats 1000000 in
theorem body (w : World) {A : Option Addr} {c : Nat} {l : List Nat} (hu : U64s w w.heap.size A l) (hl : ∀ n ∈ l, n ≤ 18446744073709551615) (h300 : l.length ≤ 300) {n : Nat} (hn : (n = l.length) ∨ (300 < n ∧ l.length = 300)) (hnc : n ≤ c) (hcm : c ≤ 140737488351232) :
    Calls Try.prog 8 #[.slice A n c] w fun e w' => e = .returned (.bool true) ∧ Below w.heap.size w w' := by
  have hjl := joined_len l hl
  go_enter Try.func8, Try.ntmps8
  go_upto_region 2 with fail
  go_cut [0] (fun s wx => s = .slice A l.length c ∧ wx = w)
  case first =>
    rcases hn with rfl | ⟨h1, h2⟩
    · have k0 : ¬ (300 : Int) < (l.length : Int) := by omega
      go_wp2
      go_meet
      case rel => exact ⟨rfl, rfl⟩
    · have k0 : (300 : Int) < (n : Int) := by omega
      have k1 : (300 : Int) ≤ (c : Int) := by omega
      have H2 := Lib.hid h2
      clear h2
      go_wp2
      go_meet
      case rel => exact ⟨by rw [H2.out], rfl⟩
  case rest =>
    obtain ⟨rfl, rfl⟩ := hcut
    have hlc : l.length ≤ c := by omega
    clear hn hnc
    go_wp2_with fail
    go_loopw [3, 16] (fun v i wr => ∃ k : Nat, k ≤ l.length ∧ i = .int .i64 (k : Int) ∧ wr.ownsRow wc.heap.size 5 1 v (joined (l.take k)).length ((joined (l.take k)).map byteV) ∧ Below wc.heap.size wc wr) (fun _ i _ => l.length - (intOf i).toNat)
    case atStart => exact ⟨0, Nat.zero_le _, rfl, World.ownsRow_nil _ _ _ _, Below.refl _ _⟩
    case round =>
      obtain ⟨k, hk, rfl, hown, hbel⟩ := hrel
      by_cases hlt : k < l.length
      · obtain ⟨b, off, rfl, hbB, hcell⟩ := (u64s_reads hu hbel).cell hlt
        have hx := hcell k hlt
        have hsn : Hid (joined (l.take (k + 1)) = joined (l.take k) ++ putU l[k]) := by rw [take_snoc_ hlt]; exact joined_snoc _ _
        have hlx := putU_len10 (hl _ (List.getElem_mem hlt))
        have hpre : (joined (l.take k)).length ≤ 10 * l.length := Nat.le_trans (joined_len _ (fun n hn => hl n (List.mem_of_mem_take hn))) (by have := List.length_take_le k l; omega)
        clear hcell
        generalize l[k] = x at *
        generalize joined (l.take k) = pre at *
        go_wp2_with fail
        refine (putU_calls x _ hlx).mono ?_
        rintro e w1 h
        obtain ⟨A1, c1, rfl, hc1, hm1, hb1, hbel1, -⟩ := h.opened
        clear h
        have hown1 := own_below hown hbel1
        have s1 := hbel1.size
        have s0 := hbel.size
        clear hown
        go_wp2_with (at_builtin; go_must (refine wpList_append_any _ rfl (.tmp 20) (.tmp 22) _ rfl wc.heap.size 5 _ 1 1 Try.underlying23 Try.infoU8 rfl (by omega) _ _ _ rfl hown1 w1.heap.size A1 (putU x).length c1 ((putU x).map byteV) rfl hb1.2 (byteV_one _) (by unfold maxLen; omega) (by omega) (by omega) ?_))
        intro v' w2 hown2 hbel2 _ _
        rw [← List.map_append, ← List.length_append, ← hsn.out] at hown2
        have hb2 : Below wc.heap.size wc w2 := (hbel.trans (hbel1.mono s0)).trans hbel2
        clear hown1
        go_wp2
        go_roundw
        case rel => exact ⟨k + 1, by omega, by go_num, hown2, hb2⟩
        case measure => simp [intOf]; omega
      · obtain rfl : k = l.length := by omega
        rw [List.take_length] at hown
        obtain ⟨A1, c1, hv, hc1, hm1, hrd⟩ := own_slice hown
        have hb1 : Bytes wr wr.heap.size A1 (joined l).length (joined l) := .of hrd
        rw [hv]
        clear hv hown hrd
        go_wp2_with fail
        refine (new_calls _ hb1 (Nat.le_refl _) (by omega)).mono ?_
        rintro e w1 ⟨g, rfl, hcur, hbel1, hg⟩
        have s0 := hbel.size
        have b1 : Below wc.heap.size wc w1 := hbel.trans (hbel1.mono s0)
        have hjl2 : (joined l).length ≤ 1000000000000000 := by omega
        go_wp2_with fail
        go_loopw [29] (fun i wr => ∃ k : Nat, k ≤ l.length ∧ i = .int .i64 (k : Int) ∧ Cur 59 wr g g (joined l) (joined (l.take k)).length 0 ∧ Below wc.heap.size wc wr) (fun i _ => l.length - (intOf i).toNat)
        case atStart => exact ⟨0, Nat.zero_le _, rfl, hcur, b1⟩
        case round =>
          obtain ⟨k, hk, rfl, hcu, hbe⟩ := hrel
          by_cases hlt : k < l.length
          · obtain ⟨b, off, rfl, hbB, hcell⟩ := (u64s_reads hu hbe).cell hlt
            have hx := hcell k hlt
            have hcc := curU_calls _ hcu hjl2
            rw [curU_joined hl hlt] at hcc
            have Hcc := Lib.hid hcc
            clear hcell hcc
            generalize l[k] = x at *
            go_wp2_with fail
            refine Hcc.out.mono ?_
            rintro e w3 ⟨rfl, h3, ho3⟩
            have hb3 := hbe.trans (ho3.below (by omega) hbe.size)
            go_wp2
            go_roundw
            case rel => exact ⟨k + 1, by omega, by go_num, h3, hb3⟩
            case measure => simp [intOf]; omega
          · obtain rfl : k = l.length := by omega
            rw [List.take_length] at hcu
            have he := end_calls _ hcu
            rw [curEnd_2' (Nat.lt_irrefl _)] at he
            have He := Lib.hid he
            have Hp := Lib.hid putU_5
            clear he
            go_wp2_with fail
            refine He.out.mono ?_
            rintro e w' ⟨rfl, n3, rfl⟩
            have hcu2 := hcu.drewN n3
            go_wp2_with fail
            refine (at_calls _ hcu2).mono ?_
            rintro e w' ⟨rfl, rfl⟩
            go_wp2_with fail
            refine (putU_calls 5 _ (by rw [Hp.out]; decide)).mono ?_
            rintro e w5 h
            rw [Hp.out] at h
            obtain ⟨A5, c5, rfl, hc5, hm5, hb5, hbel5, -⟩ := h.opened
            clear h
            have hbf := (below_drewN_ hbe n3).trans (hbel5.mono hbe.size)
            go_wp2
            go_ret
            exact ⟨rfl, hbf⟩

theorem walk {H : Type} {enc : TypeId × Value → H} {W : World} {base : Nat} {v0 : Value} {d0 : DataW H} {p0 : List MemPlace} (g0 : Arg enc Try.prog W base 39 v0 d0 p0) :
    Calls Try.prog 8 #[v0] W fun e w' => e = .returned (.bool true) ∧ Below W.heap.size W w' := by
  obtain ⟨A, n, c, zs, rfl, hz, hn, hm, hr, hrd, hw⟩ := g0.ints Try.underlying39 Try.underlying22 (by kernel_rfl)
  have hb8 : Try.prog.bytesOf 22 = 8 := by kernel_rfl
  rw [hb8] at hr
  have hl : ∀ m ∈ (zs.map Int.toNat).take 300, m ≤ 18446744073709551615 := fun m hm => by
    obtain ⟨z, hz1, rfl⟩ := List.mem_map.1 (List.mem_of_mem_take hm)
    obtain ⟨k, rfl, hk⟩ := wf_u64 (hw z hz1)
    simpa using hk
  have hmap : zs.map (Value.int .u64) = (zs.map Int.toNat).map fun n : Nat => Value.int .u64 (n : Int) := by
    rw [List.map_map]
    refine List.map_congr_left fun z hz1 => ?_
    obtain ⟨k, rfl, hk⟩ := wf_u64 (hw z hz1)
    simp
  rw [hmap] at hrd
  have hL : (zs.map Int.toNat).length = n := by rw [List.length_map, hz]
  generalize zs.map Int.toNat = L at *
  have ht : (L.take 300).length ≤ n := by rw [List.length_take]; omega
  refine body W (c := c) (l := L.take 300) ?_ hl (by rw [List.length_take]; omega) (by rw [List.length_take]; omega) hn (by omega)
  have := hrd.take ht
  rw [Nat.mul_one] at this
  have e : (L.map fun n : Nat => Value.int .u64 (n : Int)).take (L.take 300).length = (L.take 300).map fun n : Nat => Value.int .u64 (n : Int) := by
    rw [List.map_take, List.take_eq_take_iff]; simp
  rw [e] at this
  exact this
end Go.Proofs.Ytmbnbeihgggkcaa.lawNumsJoins
