/- Laws for the row's walk. -/
import Derived.Test.YtibnehaibgbliaaGreatR00
set_option linter.unusedVariables false
set_option linter.unusedSimpArgs false
open Go.Lib renaming hid → Jh
namespace Go.Proofs.YtibnehaibgbliaaGreat
open Go.RowKit
section
variable {P:Program} {ops:Array Oper} {Q:Exit→Act→World→Prop} {md:Region.Mode} {S:World→Prop} {t:Nat}
def wpAnyT (P:Program) (md:Region.Mode) (ops:Array Oper) (Q:Exit→Act→World→Prop) (S:World→Prop) (t:Nat):Nat→Array Bool→Act→World→Prop
 | 0,l,a,w=>Region.ready md ops l=[]∧Q .normal a w
 | n+1,l,a,w=>(Region.ready md ops l=[]→Q .normal a w)∧∀ i∈Region.ready md ops l,wpOp P ops Q i (fun b v=>(i≠t→S v)∧wpAnyT P md ops Q S t n (l.setIfInBounds i true) b v) a w
theorem wpAny_of_T:∀ (n:Nat) (l:Array Bool) (a:Act) (w:World),wpAnyT P md ops Q S t n l a w→wpAny P md ops Q n l a w
 | 0,_,_,_,h=>h
 | n+1,_,_,_,h=>⟨h.1,fun i hi=>wpOp_mono (fun _ _ k=>wpAny_of_T n _ _ _ k.2) (h.2 i hi)⟩
def behind (md:Region.Mode) (ops:Array Oper) (t i:Nat):Bool:=(ops[t]?).elim true fun o=>o.after.any fun e=>Region.binds md e&&e.on == i
theorem behind_not {l:Array Bool} {i:Nat} (h:behind md ops t i=true) (hi:i∈Region.ready md ops l) (_hne:i≠t):t∉Region.ready md ops l:=fun ht=>by
 obtain ⟨_,o,ho,hall⟩:=mem_ready.1 ht
 unfold behind at h
 rw [ho] at h
 obtain ⟨k,hk,h1⟩:=Array.any_eq_true.1 h
 rw [Bool.and_eq_true,beq_iff_eq] at h1
 have h2:=hall _ (Array.getElem_mem hk) h1.1
 have h3:=(mem_ready.1 hi).1
 rw [h1.2] at h2
 rcases Nat.lt_or_ge i l.size with h'|h'
 ·simp [h'] at h3 h2;rw [h3] at h2;cases h2
 ·simp [Array.getElem?_eq_none h'] at h2
theorem wpAnyT_first {i:Nat} {oi:Oper} {v:Value} (hi:ops[i]?=some oi) (hsel:∀ (j:Nat) (o:Oper) cs b,ops[j]?=some o→o.op≠.select cs b)
  (hQ:∀ c a w,Q (.panic c) (a.put oi.dst v) w→Q (.panic c) a w) (hit:i≠t) (hb:behind md ops t i=true) :
  ∀ (n:Nat) (l:Array Bool) (a:Act) (w:World),
   (∀ j oj,ops[j]?=some oj→j≠i→l.getD j true=false→(∀ e∈oj.after,Region.binds md e=true→e.on≠i)→oi.apart ops oj=true) →
   i∈Region.ready md ops l→YieldsIf P ops S oi v a→S w →
   wpAnyT P md ops Q S t n (l.setIfInBounds i true) (a.put oi.dst v) w→wpAnyT P md ops Q S t (n+1) l a w:=by
 intro n
 induction n with
 | zero =>
  intro l a w _ hr hy hS H
  refine ⟨fun h=>absurd (h ▸ hr) (by simp),fun j hj=>?_⟩
  by_cases e:j=i
  ·rw [e];exact hy.wpOp hi hS ⟨fun _=>hS,H⟩
  ·exact absurd (H.1 ▸ ready_mono hj e) (by simp)
 | succ n ih =>
  intro l a w hfree hr hy hS H
  refine ⟨fun h=>absurd (h ▸ hr) (by simp),fun j hj=>?_⟩
  by_cases e:j=i
  ·rw [e];exact hy.wpOp hi hS ⟨fun _=>hS,H⟩
  ·have hjt:j≠t:=fun e'=>behind_not hb hr hit (e' ▸ hj)
   obtain ⟨hun,oj,hoj,hall⟩:=mem_ready.1 hj
   have hno:∀ d∈oj.after,Region.binds md d=true→d.on≠i:=fun d hd hbd heq=>by
    have k1:=hall d hd hbd
    have k2:=(mem_ready.1 hr).1
    rw [heq] at k1
    rcases Nat.lt_or_ge i l.size with h'|h'
    ·simp [h'] at k2 k1;rw [k2] at k1;cases k1
    ·simp [Array.getElem?_eq_none h'] at k1
   refine wpOp_mono (fun b u k=>⟨fun _=>k.2.1 hjt,ih (l.setIfInBounds j true) b u (fun m om hm hmi hmu hmn=>hfree m om hm hmi ?_ hmn) (ready_mono hr (Ne.symm e)) k.1 (k.2.1 hjt) ?_⟩)
    (wpOp_putIf hoj (hfree j oj hoj e hun hno) (fun cs b=>hsel i oi cs b hi) (fun cs b=>hsel j oj cs b hoj) hQ hy (H.2 j (ready_mono hj e)))
   ·by_cases e':j=m
    ·rw [← e'];exact hun
    ·rw [getD_set_ne true e'] at hmu;exact hmu
   ·rw [Array.setIfInBounds_comm _ _ e]
    exact k.2.2
theorem wpAnyT_take {i:Nat} {oi:Oper} {v:Value} {n:Nat} {l:Array Bool} {a:Act} {w:World} (hi:ops[i]?=some oi)
  (hs:(Region.noSelect ops&&Region.free md ops l i&&(Region.ready md ops l).contains i&&(decide (i≠t)&&behind md ops t i))=true)
  (hQ:∀ c a w,Q (.panic c) (a.put oi.dst v) w→Q (.panic c) a w) (hy:YieldsIf P ops S oi v a) (hS:S w)
  (h:wpAnyT P md ops Q S t n (l.setIfInBounds i true) (a.put oi.dst v) w):wpAnyT P md ops Q S t (n+1) l a w:=by
 simp only [Bool.and_eq_true,decide_eq_true_eq] at hs
 obtain ⟨⟨⟨h1,h2⟩,h3⟩,h4,h5⟩:=hs
 exact wpAnyT_first hi (Region.noSelect_spec h1) hQ h4 h5 n l a w (Region.free_spec hi h2) (by simpa using h3) hy hS h
theorem wpAnyT_done {l:Array Bool} {a:Act} {w:World} (hr:Region.ready md ops l=[]) (h:Q .normal a w):∀ n,wpAnyT P md ops Q S t n l a w
 | 0=>⟨hr,h⟩
 | _+1=>⟨fun _=>h,by rw [hr];simp⟩
theorem wpAnyT_one {i:Nat} {o:Oper} {n:Nat} {l:Array Bool} {a:Act} {w:World} (hr:Region.ready md ops l=[i]) (ho:ops[i]?=some o)
  (h:∀ K:Act→World→Prop,Shut (∀ a w,(i≠t→S w)→wpAnyT P md ops Q S t n (l.setIfInBounds i true) a w→K a w)→if Region.wanted o (yielded ops a.tmps)=true then Oper.wp P o a w K Q else K (a.put o.dst undef) w):wpAnyT P md ops Q S t (n+1) l a w :=
 ⟨fun h0=>absurd (hr ▸ h0) (by simp),fun j hj=>by
  rw [hr,List.mem_singleton] at hj
  rw [hj]
  exact wpOp_step ho fun K hK=>h K fun a w h1 h2=>hK a w ⟨h1,h2⟩⟩
theorem wp_region_T {id:Nat} {a:Act} {w:World} (t:Nat) (S:World→Prop) (hm:P.follows .mixedOrders=true) (hS:S w.drew)
  (h:S w.drew→wpAnyT P .any ops Q S t ops.size (Array.replicate ops.size false) a w.drew):(Code.region id ops true).wp P Q a w :=
 wp_region_any hm (wpAny_of_T _ _ _ _ (h hS))
theorem tkT (i:Nat) {oi:Oper} {v:Value} {n:Nat} {l l':Array Bool} {a a':Act} {w:World} (hi:ops[i]?=some oi:=by rfl)
  (hs:(Region.noSelect ops&&Region.free md ops l i&&(Region.ready md ops l).contains i&&(decide (i≠t)&&behind md ops t i))=true:=by kernel_rfl)
  (hw:Region.wanted oi (yielded ops a.tmps)=true:=by kernel_rfl)
  (hr:∀ w,S w→(execOp a.eval oi).run P w=.ok (.value v) w:=by (intro w hSw;(try dsimp only at hSw);go_simp;(try with_reducible rfl)))
  (hQ:∀ c a w,Q (.panic c) (a.put oi.dst v) w→Q (.panic c) a w:=by exact fun _ _ _ h=>h) (hS:S w:=by assumption)
  (hl:l.setIfInBounds i true=l':=by ((try simp only [Act.put,List.getElem_toArray,List.getElem_cons_zero,List.getElem_cons_succ,List.setIfInBounds_toArray,List.set_cons_zero,List.set_cons_succ]);(try rfl))) (ha:a.put oi.dst v=a':=by ((try simp only [Act.put,List.getElem_toArray,List.getElem_cons_zero,List.getElem_cons_succ,List.setIfInBounds_toArray,List.set_cons_zero,List.set_cons_succ]);(try rfl)))
  (h:wpAnyT P md ops Q S t n l' a' w):wpAnyT P md ops Q S t (n+1) l a w:=by
 subst hl ha
 exact wpAnyT_take hi hs hQ (.inl ⟨hw,hr⟩) hS h
theorem tuT (i:Nat) {oi:Oper} {n:Nat} {l l':Array Bool} {a a':Act} {w:World} (hi:ops[i]?=some oi:=by rfl)
  (hs:(Region.noSelect ops&&Region.free md ops l i&&(Region.ready md ops l).contains i&&(decide (i≠t)&&behind md ops t i))=true:=by kernel_rfl)
  (hw:Region.wanted oi (yielded ops a.tmps)=false:=by kernel_rfl)
  (hQ:∀ c a w,Q (.panic c) (a.put oi.dst undef) w→Q (.panic c) a w:=by exact fun _ _ _ h=>h) (hS:S w:=by assumption)
  (hl:l.setIfInBounds i true=l':=by ((try simp only [Act.put,List.getElem_toArray,List.getElem_cons_zero,List.getElem_cons_succ,List.setIfInBounds_toArray,List.set_cons_zero,List.set_cons_succ]);(try rfl))) (ha:a.put oi.dst undef=a':=by ((try simp only [Act.put,List.getElem_toArray,List.getElem_cons_zero,List.getElem_cons_succ,List.setIfInBounds_toArray,List.set_cons_zero,List.set_cons_succ]);(try rfl)))
  (h:wpAnyT P md ops Q S t n l' a' w):wpAnyT P md ops Q S t (n+1) l a w:=by
 subst hl ha
 exact wpAnyT_take hi hs hQ (.inr ⟨hw,rfl⟩) hS h
end
end Go.Proofs.YtibnehaibgbliaaGreat
