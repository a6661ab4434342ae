/- Laws for the row's walk. -/
import Derived.Test.YtibnehaibgbliaaGreatR09
import Derived.Test.YtibnehaibgbliaaGreatIter
set_option linter.unusedVariables false
set_option linter.unusedSimpArgs false
open Go.Lib renaming hid → Jh
namespace Go.Proofs.YtibnehaibgbliaaGreat
open Go.RowKit Go.Sort Go.Shelf
namespace Mf
theorem sorts_ (m:Nat):AnyZ.SortsIn Tryz.prog Tryz.sorted104_ren Fence.wide m :=
 ⟨fun blk off cap ss W hH hblk hsz=>callsIn_wide.2 (AnyM.slices_Sort_string Tryz.sort125 blk off cap ss W hH hblk hsz),
 fun p cap W=>callsIn_wide.2 (AnyM.slices_Sort_string_none Tryz.sort125 p cap W)⟩
theorem keys_fn (mb:Option Nat) (W:World):Calls Tryz.prog 105 #[.map mb] W fun e w'=>e=.returned (.func (.func 126) #[] #[.pointer (some ⟨W.heap.size,0,none⟩)])∧w'=W.alloc (.cells #[.map mb] 158) :=
 (callsIn_wide (n:=5)).1 (AnyZ.keys_in Tryz.keys105 Fence.wide 5 trivial rfl mb W)
set_option maxHeartbeats 1000000 in
theorem sorted_fn {H:Type} (b nn:Nat) (D0:DataW H) (R:Value→Option (DataW H × List MemPlace)) (w:World) (hown:w.ownsMap Tryz.prog 9 R b nn D0) (hmax:Go.Maps.size D0≤maxLen) (hbytes:Go.Maps.size D0*16≤140737488355328) :
  Calls Tryz.prog 104 #[.func (.func 126) #[] #[.pointer (some ⟨w.heap.size,0,none⟩)]] (w.alloc (.cells #[.map (some b)] 158)) fun e w'=>∃ (v:Value) (ss:List (List UInt8)),e=.returned v∧ss.Perm (strKeys D0) ∧
   w'.ownsRow (w.alloc (.cells #[.map (some b)] 158)).heap.size 9 1 v ss.length ((ss.mergeSort (fun x y=>decide (x≤y))).map encStr)∧(v=.slice none 0 0↔ss=[])∧Below (w.alloc (.cells #[.map (some b)] 158)).heap.size (w.alloc (.cells #[.map (some b)] 158)) w':=by
 have hbl:=hown.lt
 have hseq:SeqGives Fence.wide 2 Tryz.prog 126 #[.pointer (some ⟨w.heap.size,0,none⟩)] encStr (fun ss=>ss.Perm (strKeys D0)) (Go.Maps.size D0) (w.alloc (.cells #[.map (some b)] 158)) :=
  AnyZ.keys_gives (ρ:=Tryz.keys105_ren) { Tryz.keys105 with } Fence.wide _ trivial rfl (by omega) w.heap.size b nn D0 _ (by simp) (by simp) (by
   obtain ⟨es,clock,hb,Ft,hs,hD⟩:=hown
   exact ⟨es,clock,(Below.heap_alloc _ _ b hbl).trans hb,Ft,hs,hD⟩)
 exact (callsIn_wide (n:=5)).1 (AnyZ.sorted_in Tryz.sorted104 Fence.wide 5 trivial trivial trivial trivial rfl (by omega) (sorts_ _) (enters_of Tryz.func125 (by kernel_rfl) rfl) 126 #[.pointer (some ⟨w.heap.size,0,none⟩)] trivial (enters_of Tryz.func126 (by kernel_rfl) rfl) _ _ hmax hbytes _ hseq)
end Mf
end Go.Proofs.YtibnehaibgbliaaGreat
namespace Go.Proofs.YtibnehaibgbliaaGreat.Mf
open Go.RowKit Go.Proofs.YtibnehaibgbliaaGreat
def NdP {α κ:Type} [Inhabited α] (r:α→Bool) (key:α→κ) (l:List α) (k:Nat):Prop:=∀ i,i<k→r (gt l i)=true∧∀ j,j<i→key (gt l j)≠key (gt l i)
theorem nd_step {α κ:Type} [Inhabited α] {r:α→Bool} {key:α→κ} {l:List α} {k:Nat} (h:NdP r key l k) (h1:r (gt l k)=true) (h2:∀ j,j<k→key (gt l j)≠key (gt l k)):NdP r key l (k+1):=by
 intro i hi
 rcases Nat.lt_or_ge i k with h3|h3
 ·exact h i h3
 ·obtain rfl:i=k:=by omega
  exact ⟨h1,h2⟩
theorem nd_all {α κ:Type} [Inhabited α] [DecidableEq κ] {r:α→Bool} {key:α→κ} {l:List α} (h:NdP r key l l.length):l.all r=true∧(l.map key).Nodup:=by
 refine ⟨all_yes fun i hi=>(h i hi).1,?_⟩
 rw [List.nodup_iff_pairwise_ne,List.pairwise_iff_getElem]
 intro i j hi hj hij
 rw [List.length_map] at hi hj
 rw [List.getElem_map,List.getElem_map,gt_eq hi,gt_eq hj]
 exact (h j hj).2 i hij
theorem nd_no {α κ:Type} [Inhabited α] [DecidableEq κ] {key:α→κ} {l:List α} {i j:Nat} (hi:i<l.length) (hj:j<i) (h:key (gt l j)=key (gt l i)):¬ (l.map key).Nodup:=by
 intro hn
 rw [List.nodup_iff_pairwise_ne,List.pairwise_iff_getElem] at hn
 have:=hn j i (by rw [List.length_map];omega) (by rw [List.length_map];omega) hj
 rw [List.getElem_map,List.getElem_map,gt_eq hi,gt_eq (show j<l.length by omega)] at this
 exact this h
theorem ltP_mk {y x:Mk} (hy:mkB y=true) (hx:mkB x=true):ltP y x=(decide (y.maker<x.maker)||decide (y.maker=x.maker)&&decide (y.seq<x.seq)):=by
 unfold mkB at hy hx
 simp only [Bool.and_eq_true,decide_eq_true_eq,numB_iff] at hy hx
 unfold ltP
 rw [Bool.eq_iff_iff]
 simp only [Bool.and_eq_true,Bool.or_eq_true,decide_eq_true_eq]
 omega
end Go.Proofs.YtibnehaibgbliaaGreat.Mf
