/- An object got (chapter 14). -/
import Derived.Test.YtlljpjehalodfaaGreatProg
import Derived.Test.YtlljpjehalodfaaGreatStF
namespace Go.Proofs.YtlljpjehalodfaaGreat
open Go.RowKit
namespace St

def cutB (A : Option Addr) (c l : Nat) : Option Addr := if c = l then A else A.map (·.add (l * 1))
def midB (d : Bs) (l k : Nat) : Bs := (d.drop l).take k
theorem midB_len {d : Bs} {l k : Nat} (h : l + k ≤ d.length) : (midB d l k).length = k := by
  unfold midB; rw [List.length_take, List.length_drop]; omega
theorem Dat.cut {w : World} {gs c l k : Nat} {A : Option Addr} {d : Bs} (h : Dat w gs A c d) (hl : l + k ≤ d.length) : Dat w gs (cutB A c l) (c - l) (midB d l k) := by
  have hlen := h.len
  refine ⟨by rw [midB_len hl]; omega, fun hd => ?_⟩
  rw [midB_len hl] at hd
  obtain ⟨b, off, e, hb, hc⟩ := h.at_ (by omega)
  refine ⟨b, off + l, ?_, hb, fun j u hu => ?_⟩
  · unfold cutB
    rw [if_neg (by omega), e, Option.map_some, Nat.mul_one, addr_add]
  · rw [Nat.add_assoc]
    refine hc _ _ ?_
    rw [List.getElem?_map] at hu ⊢
    unfold midB at hu
    rw [List.getElem?_take] at hu
    split at hu
    · rw [List.getElem?_drop] at hu; exact hu
    · cases hu
theorem Tryz.infoU8 : (Tryz.prog.info? 5).map (fun i => (i.zero, i.size, i.bytes)) = some (some (.int .u8 0), 1, 1) := by kernel_rfl
set_option maxRecDepth 100000 in
theorem sliceD (w : World) (A : Option Addr) (n c : Nat) {l k : Int} (hl : 0 ≤ l) (hk : 0 ≤ k) (h : l + k ≤ (c : Int)) :
    (Instr.slice 32 (.slice A n c) (some (.int .i64 l)) (some (.int .i64 (l + k))) none).run Tryz.prog w = .ok (.slice (cutB A c l.toNat) k.toNat (c - l.toNat)) w := by
  unfold cutB
  have e : (l + k).toNat - l.toNat = k.toNat := by omega
  obtain ⟨i, hi, _, hs, _⟩ := info_parts Tryz.infoU8
  have hE : Tryz.prog.elem 32 = 5 := by kernel_rfl
  rw [run_slice_lh w _ A n c Tryz.underlying32 .i64 .i64 _ _ hl (by omega) h, hE]
  simp [sliced, Result.andThen, e, sizeOf, typeInfo, hi, hs]
end St
end Go.Proofs.YtlljpjehalodfaaGreat
