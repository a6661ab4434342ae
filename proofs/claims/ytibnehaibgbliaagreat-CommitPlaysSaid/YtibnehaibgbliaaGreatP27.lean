/- Laws for the row's walk. -/
import Derived.Orders
import Derived.Test.YtibnehaibgbliaaGreatP11
set_option linter.unusedVariables false
set_option linter.unusedSimpArgs false
open Go.Lib renaming hid → Jh
namespace Go.Proofs.YtibnehaibgbliaaGreat
open Go.RowKit
section
variable {P:Program} {ops:Array Oper} {Q:Exit→Act→World→Prop}
theorem wpAny_inv {md:Region.Mode} (I:Array Bool→Act→World→Prop)
  (hend:∀ listed a w,I listed a w→Region.ready md ops listed=[]→Q .normal a w)
  (hstep:∀ listed a w,I listed a w→∀ i∈Region.ready md ops listed,wpOp P ops Q i (I (listed.setIfInBounds i true)) a w)
  (hfree:∀ listed a w,I listed a w→listed.size=ops.size) :
  ∀ (fuel:Nat) (listed:Array Bool) (a:Act) (w:World),I listed a w→(listed.toList.countP (! ·))≤fuel→wpAny P md ops Q fuel listed a w
 | 0,listed,a,w,h,hf=>by
  have hr:Region.ready md ops listed=[]:=by
   unfold Region.ready
   rw [List.filter_eq_nil_iff]
   intro i hi
   have hs:=hfree _ _ _ h
   have hi':i<listed.size:=by rw [hs];exact List.mem_range.1 hi
   have h0:listed.toList.countP (! ·)=0:=by omega
   rw [List.countP_eq_zero] at h0
   have:=h0 listed[i] (by simp)
   simp at this
   simp [Array.getD,hi',this]
  exact ⟨hr,hend _ _ _ h hr⟩
 | fuel+1,listed,a,w,h,hf=>by
  refine ⟨hend _ _ _ h,fun i hi=>wpOp_mono (fun a' w' h'=>wpAny_inv I hend hstep hfree fuel _ a' w' h' ?_) (hstep _ _ _ h i hi)⟩
  have hs:=hfree _ _ _ h
  unfold Region.ready at hi
  rw [List.mem_filter] at hi
  have hi':i<listed.size:=by rw [hs];exact List.mem_range.1 hi.1
  have hb:=hi.2
  simp [Array.getD,hi'] at hb
  have hlf:listed.toList[i]'(by simpa using hi')=false:=by simpa using hb.1
  rw [Array.toList_setIfInBounds,List.countP_set (by simpa using hi'),hlf]
  have hpos:0<listed.toList.countP (! ·):=List.countP_pos_iff.2 ⟨listed.toList[i]'(by simpa using hi'),List.getElem_mem _,by rw [hlf];rfl⟩
  generalize listed.toList.countP (! ·)=n at *
  have e:((if (!false)=true then 1 else 0):Nat)=1:=rfl
  have e2:((if (!true)=true then 1 else 0):Nat)=0:=rfl
  rw [e,e2]
  omega
def dstOf (ops:Array Oper) (i:Nat):Option Tmp:=(ops[i]?).bind (·.dst)
def qbb (ops:Array Oper) (vs:Nat→Value) (c:Nat→Bool):List Nat→Act→Act
 | [],a=>a
 | j::L,a=>qbb ops vs c L (if c j then a.put (dstOf ops j) (vs j) else a)
theorem qeo (vs:Nat→Value) (c:Nat→Bool) (x:Option Tmp) (v:Value):∀ (L:List Nat) (a:Act),(∀ j∈L,∀ d,x=some d→dstOf ops j≠some d)→qbb ops vs c L (a.put x v)=(qbb ops vs c L a).put x v
 | [],_,_=>rfl
 | j::L,a,h=>by
  have hj:=h j (by simp)
  have hL:=fun k hk=>h k (List.mem_cons_of_mem _ hk)
  simp only [qbb]
  cases c j
  ·exact qeo vs c x v L a hL
  ·simp only [if_true]
   rw [Act.put_comm a v (vs j) hj]
   exact qeo vs c x v L _ hL
theorem qdd {vs vs':Nat→Value} {c c':Nat→Bool}:∀ (L:List Nat) (a:Act),(∀ j∈L,c' j=c j∧(c j=true→vs' j=vs j))→qbb ops vs' c' L a=qbb ops vs c L a
 | [],_,_=>rfl
 | j::L,a,h=>by
  obtain ⟨h1,h2⟩:=h j (by simp)
  simp only [qbb,h1]
  rw [qdd L _ fun k hk=>h k (List.mem_cons_of_mem _ hk)]
  cases hc:c j
  ·rfl
  ·simp [h2 hc]
theorem putsIf_add {vs vs':Nat→Value} {c c':Nat→Bool} {i:Nat} (hc:c i=false) (hc':c' i=true) (ho:∀ j,j≠i→c' j=c j∧(c j=true→vs' j=vs j)):∀ (L:List Nat) (a:Act),L.Nodup→i∈L→(∀ j∈L,j≠i→∀ d,dstOf ops i=some d→dstOf ops j≠some d)→qbb ops vs' c' L a=(qbb ops vs c L a).put (dstOf ops i) (vs' i)
 | [],_,_,hi,_=>by simp at hi
 | j::L,a,hn,hi,hd=>by
  rw [List.nodup_cons] at hn
  simp only [qbb]
  by_cases hji:j=i
  ·subst hji
   simp only [hc,hc',if_true]
   rw [qeo]
   ·simp only [Bool.false_eq_true,if_false]
    rw [qdd L a fun k hk=>ho k (by rintro rfl;exact hn.1 hk)]
   ·exact fun k hk=>hd k (List.mem_cons_of_mem _ hk) (by rintro rfl;exact hn.1 hk)
  ·obtain ⟨h1,h2⟩:=ho j hji
   rw [putsIf_add hc hc' ho L _ hn.2 (by simpa [Ne.symm hji] using hi) fun k hk=>hd k (List.mem_cons_of_mem _ hk),h1]
   cases hcj:c j
   ·rfl
   ·simp [h2 hcj]
theorem qdu (vs:Nat→Value) (c:Nat→Bool) {x:Operand}:∀ (L:List Nat) (a:Act),(∀ j∈L,c j=true→∀ d,dstOf ops j=some d→x≠.tmp d)→(qbb ops vs c L a).eval x=a.eval x
 | [],_,_=>rfl
 | j::L,a,h=>by
  simp only [qbb]
  rw [qdu vs c L _ fun k hk=>h k (List.mem_cons_of_mem _ hk)]
  cases hc:c j
  ·rfl
  ·simp only [if_true]
   exact Act.eval_put (h j (by simp) hc)
theorem putsIf_at (vs:Nat→Value) (c:Nat→Bool) {i:Nat} {d:Tmp} (hi:c i=true) (hd:dstOf ops i=some d):∀ (L:List Nat) (a:Act),L.Nodup→i∈L→(∀ j∈L,j≠i→dstOf ops j≠some d)→d<a.tmps.size→(qbb ops vs c L a).eval (.tmp d)=vs i
 | [],_,_,hm,_,_=>by simp at hm
 | j::L,a,hn,hm,ho,hs=>by
  rw [List.nodup_cons] at hn
  simp only [qbb]
  by_cases hji:j=i
  ·subst hji
   simp only [hi,if_true]
   rw [qdu]
   ·simp [hd,Act.put,Act.eval,Array.getD,hs]
   ·intro k hk _ d' hd' e
    injection e with e
    subst e
    exact ho k (List.mem_cons_of_mem _ hk) (by rintro rfl;exact hn.1 hk) hd'
  ·rw [putsIf_at vs c hi hd L _ hn.2 (by simpa [Ne.symm hji] using hm) fun k hk=>ho k (List.mem_cons_of_mem _ hk)]
   cases c j
   ·exact hs
   ·simp only [if_true]
    cases dstOf ops j<;>simp [Act.put,hs]
def growable (ops:Array Oper) (n:Nat):Bool :=
 (List.range ops.size).all fun i=>match ops[i]? with
  | none=>true
  | some o=>o.guard.isNone&&(o.after.all fun e=>!Region.binds .any e||decide (e.on<i))&&(match o.dst with|none=>true|some d=>decide (d<n)) &&
   (List.range ops.size).all fun j=>j == i||(match o.dst with|none=>true|some d=>dstOf ops j != some d)
theorem qcx {n:Nat} (h:growable ops n=true) {i:Nat} {o:Oper} (ho:ops[i]?=some o) :
  o.guard=none∧(∀ e∈o.after,Region.binds .any e=true→e.on<i)∧(∀ d,o.dst=some d→d<n∧∀ j,j<ops.size→j≠i→dstOf ops j≠some d):=by
 have hi:i<ops.size:=by
  rcases Nat.lt_or_ge i ops.size with h1|h1
  ·exact h1
  ·rw [Array.getElem?_eq_none h1] at ho;cases ho
 have:=List.all_eq_true.1 h i (List.mem_range.2 hi)
 simp only [ho,Bool.and_eq_true,Option.isNone_iff_eq_none] at this
 obtain ⟨⟨⟨h1,h2⟩,h3⟩,h4⟩:=this
 refine ⟨h1,fun e he hb=>?_,fun d hd=>?_⟩
 ·rw [Array.all_eq_true_iff_forall_mem] at h2
  simpa [hb] using h2 e he
 ·rw [hd] at h3 h4
  refine ⟨by simpa using h3,fun j hj hji=>?_⟩
  have:=List.all_eq_true.1 h4 j (List.mem_range.2 hj)
  simpa [hji] using this
theorem mem_ready_b {md:Region.Mode} {listed:Array Bool} {i:Nat}:i∈Region.ready md ops listed↔i<ops.size∧listed.getD i true=false∧∃ o,ops[i]?=some o∧∀ e∈o.after,Region.binds md e=true→listed.getD e.on false=true:=by
 unfold Region.ready
 rw [List.mem_filter,List.mem_range]
 refine and_congr_right fun hi=>?_
 have ho:ops[i]?=some ops[i]:=Array.getElem?_eq_getElem hi
 rw [ho,Option.map_some,Option.getD_some,Bool.and_eq_true,Bool.not_eq_true']
 refine and_congr_right fun _=>?_
 rw [Array.all_eq_true_iff_forall_mem]
 constructor
 ·intro h
  refine ⟨_,rfl,fun e he hb=>?_⟩
  have:=h e he
  simpa [hb] using this
 ·rintro ⟨o,h1,h2⟩ e he
  injection h1 with h1
  subst h1
  cases hb:Region.binds md e
  ·rfl
  ·simp [h2 e he hb]
theorem getD_set_nb (l:Array Bool) {i j:Nat} (v b:Bool) (h:j≠i):(l.setIfInBounds i v).getD j b=l.getD j b:=by
 rw [Array.getD_eq_getD_getElem?,Array.getD_eq_getD_getElem?,Array.getElem?_setIfInBounds_ne (Ne.symm h)]
theorem getD_both {l:Array Bool} {i:Nat} (h:i<l.size) (b c:Bool):l.getD i b=l.getD i c:=by simp [Array.getD,h]
theorem wp_region_state {id:Nat} {a:Act} {w:World} (hm:P.follows .mixedOrders=true) (hg:growable ops a.tmps.size=true)
  (S:(Nat→Bool)→(Nat→Value)→World→Prop) (h0:S (fun _=>false) (fun _=>undef) { w with drawn:=w.drawn+1 })
  (hstep:∀ (i:Nat) (o:Oper),ops[i]?=some o→∀ (c:Nat→Bool) (vs:Nat→Value) (w':World) (b:Act),S c vs w'→c i=false →
   (∀ e∈o.after,Region.binds .any e=true→c e.on=true) →
   (∀ j d,c j=true→dstOf ops j=some d→b.eval (.tmp d)=vs j) →
   (∀ x,(∀ j,j<ops.size→∀ d,dstOf ops j=some d→x≠.tmp d)→b.eval x=a.eval x) →
   o.wp P b w' (fun b' w''=>∃ v,b'=b.put o.dst v∧S (fun j=>if j=i then true else c j) (fun j=>if j=i then v else vs j) w'') Q)
  (hend:∀ (c:Nat→Bool) (vs:Nat→Value) (w':World),S c vs w'→(∀ j,j<ops.size→c j=true)→Q .normal (qbb ops vs (fun _=>true) (List.range ops.size) a) w') :
  (Code.region id ops true).wp P Q a w:=by
 refine wp_region_any hm ?_
 refine wpAny_inv (P:=P) (Q:=Q) (md:=.any) (fun listed b w'=>listed.size=ops.size∧∃ vs:Nat→Value,b=qbb ops vs (fun j=>listed.getD j false) (List.range ops.size) a∧S (fun j=>listed.getD j false) vs w') ?_ ?_ ?_ _ _ _ _ ?_ ?_
 ·rintro listed b w' ⟨hs,vs,rfl,hS⟩ hr
  have hlisted:∀ k j,j<k→j<ops.size→listed.getD j false=true:=by
   intro k
   induction k with
   | zero=>intro j hj;omega
   | succ k ih =>
    intro j hj hjo
    rcases Nat.lt_or_ge j k with h1|h1
    ·exact ih j h1 hjo
    ·obtain rfl:j=k:=by omega
     cases hb:listed.getD j false
     ·exfalso
      have hm:j∈Region.ready .any ops listed:=by
       have ho:ops[j]?=some ops[j]:=Array.getElem?_eq_getElem hjo
       obtain ⟨_,h2,_⟩:=qcx hg ho
       exact mem_ready_b.2 ⟨hjo,(getD_both (by omega) _ _).trans hb,_,ho,fun e he hbd=>ih e.on (h2 e he hbd) (by have:=h2 e he hbd;omega)⟩
      rw [hr] at hm
      simp at hm
     ·rfl
  have hc:qbb ops vs (fun j=>listed.getD j false) (List.range ops.size) a=qbb ops vs (fun _=>true) (List.range ops.size) a :=
   (qdd _ _ fun j hj=>⟨(hlisted (j+1) j (by omega) (List.mem_range.1 hj)).symm,fun _=>rfl⟩).symm
  rw [hc]
  exact hend _ vs w' hS fun j hj=>hlisted (j+1) j (by omega) hj
 ·rintro listed b w' ⟨hs,vs,rfl,hS⟩ i hi
  obtain ⟨hio,hn1,o,ho,hn2⟩:=mem_ready_b.1 hi
  obtain ⟨g1,g2,g3⟩:=qcx hg ho
  have hil:i<listed.size:=by omega
  have hdis:∀ j∈List.range ops.size,j≠i→∀ d,dstOf ops i=some d→dstOf ops j≠some d:=fun j hj hji d hd =>
   (g3 d (by simpa [dstOf,ho] using hd)).2 j (List.mem_range.1 hj) hji
  have hb1:listed.getD i false=false:=(getD_both hil _ _).trans hn1
  have hset:(fun j=>(listed.setIfInBounds i true).getD j false)=fun j=>if j=i then true else listed.getD j false:=by
   funext j
   by_cases hji:j=i
   ·subst hji;simp [Array.getD,hil]
   ·rw [if_neg hji];exact getD_set_nb _ _ _ hji
  unfold wpOp
  simp only [ho]
  have hw:Region.wanted o (yielded ops (qbb ops vs (fun j=>listed.getD j false) (List.range ops.size) a).tmps)=true:=by simp [Region.wanted,g1]
  rw [if_pos hw]
  refine .inl (Oper.wp_mono ?_ (hstep i o ho _ vs w' _ hS hb1 hn2 (fun j d hj hd=>?_) (fun x hx=>qdu _ _ _ _ fun j hj _ d hd=>hx j (List.mem_range.1 hj) d hd)))
  ·rintro b' w'' ⟨v,rfl,h1⟩
   refine ⟨by simp [hs],fun j=>if j=i then v else vs j,?_,?_⟩
   ·have hadd:=putsIf_add (ops:=ops) (vs:=vs) (vs':=fun j=>if j=i then v else vs j) (c:=fun j=>listed.getD j false) (c':=fun j=>(listed.setIfInBounds i true).getD j false) (i:=i)
     hb1 (by simp [Array.getD,hil]) (fun j hji=>⟨getD_set_nb _ _ _ hji,fun _=>by simp [hji]⟩) (List.range ops.size) a List.nodup_range (List.mem_range.2 hio) hdis
    rw [hadd]
    simp [dstOf,ho]
   ·rw [hset];exact h1
  ·have hjo:j<ops.size:=by
    rcases Nat.lt_or_ge j ops.size with h|h
    ·exact h
    ·exfalso
     have:¬ j<listed.size:=by omega
     simp [Array.getD,this] at hj
   have hoe:ops[j]?=some ops[j]:=Array.getElem?_eq_getElem hjo
   obtain ⟨_,_,k3⟩:=qcx hg hoe
   have hd':ops[j].dst=some d:=by simpa [dstOf,hoe] using hd
   exact putsIf_at vs _ hj hd _ _ List.nodup_range (List.mem_range.2 hjo) (fun k hk hkj=>(k3 d hd').2 k (List.mem_range.1 hk) hkj) (k3 d hd').1
 ·rintro listed b w' ⟨hs,_⟩
  exact hs
 ·have hz:(fun j=>(Array.replicate ops.size false).getD j false)=fun _=>false:=by
   funext j
   simp [Array.getD]
  refine ⟨by simp,fun _=>undef,?_,?_⟩
  ·have h0:∀ (L:List Nat) (b:Act),qbb ops (fun _=>undef) (fun _=>false) L b=b:=by
    intro L
    induction L with
    | nil=>intro b;rfl
    | cons j L ih=>intro b;simp only [qbb];exact ih b
   rw [hz]
   exact (h0 _ _).symm
  ·rw [hz];exact h0
 ·refine Nat.le_trans List.countP_le_length ?_
  simp
def waits (ops:Array Oper) (i j:Nat):Bool:=match ops[i]? with
 | none=>false
 | some o=>o.after.any fun e=>e.on == j&&Region.binds .any e
def outer (ops:Array Oper) (t:Tmp):Bool:=(List.range ops.size).all fun j=>dstOf ops j != some t
def putL:List (Option Tmp)→(Nat→Value)→Nat→Act→Act
 | [],_,_,a=>a
 | d::r,vs,k,a=>putL r vs (k+1) (a.put d (vs k))
theorem putsIf_putL (vs:Nat→Value):∀ (n k:Nat) (a:Act),qbb ops vs (fun _=>true) (List.range' k n) a=putL ((List.range' k n).map (dstOf ops)) vs k a
 | 0,_,_=>rfl
 | n+1,k,a=>by
  simp only [List.range'_succ,qbb,List.map_cons,putL,if_true]
  exact putsIf_putL vs n (k+1) _
theorem wp_region_steps {id:Nat} {a:Act} {w:World} (hm:P.follows .mixedOrders=true) (hg:growable ops a.tmps.size=true)
  (S:(Nat→Bool)→(Nat→Value)→World→Prop) (h0:S (fun _=>false) (fun _=>undef) { w with drawn:=w.drawn+1 })
  (hstep:∀ (i:Nat) (o:Oper),ops[i]?=some o→∀ (c:Nat→Bool) (vs:Nat→Value) (w':World) (b:Act),S c vs w'→c i=false →
   (∀ j,waits ops i j=true→c j=true)→(∀ j d,c j=true→dstOf ops j=some d→b.eval (.tmp d)=vs j)→(∀ t,outer ops t=true→b.eval (.tmp t)=a.eval (.tmp t)) →
   o.wp P b w' (fun b' w''=>∃ v,b'=b.put o.dst v∧S (fun j=>if j=i then true else c j) (fun j=>if j=i then v else vs j) w'') Q)
  (ds:List (Option Tmp)) (hds:(List.range ops.size).map (dstOf ops)=ds)
  (hend:∀ (c:Nat→Bool) (vs:Nat→Value) (w':World),S c vs w'→(∀ j,j<ops.size→c j=true)→Q .normal (putL ds vs 0 a) w') :
  (Code.region id ops true).wp P Q a w:=by
 have hend':∀ (c:Nat→Bool) (vs:Nat→Value) (w':World),S c vs w'→(∀ j,j<ops.size→c j=true)→Q .normal (qbb ops vs (fun _=>true) (List.range ops.size) a) w':=fun c vs w' h1 h2=>by
  have:=hend c vs w' h1 h2
  rw [List.range_eq_range',putsIf_putL,← List.range_eq_range',hds]
  exact this
 refine wp_region_state hm hg S h0 (fun i o ho c vs w' b hS hci hbd hev hout=>hstep i o ho c vs w' b hS hci (fun j hj=>?_) hev (fun t ht=>hout _ fun j hj d hd e=>?_)) hend'
 ·unfold waits at hj
  rw [ho] at hj
  simp only [Array.any_eq_true] at hj
  obtain ⟨k,hk,h1⟩:=hj
  rw [Bool.and_eq_true,beq_iff_eq] at h1
  have:=hbd _ (Array.getElem_mem hk) h1.2
  rwa [h1.1] at this
 ·injection e with e
  subst e
  have:=List.all_eq_true.1 ht j (List.mem_range.2 hj)
  rw [hd] at this
  simp at this
theorem qb4 {o:Oper} {b:Act} {w w':World} {K:Act→World→Prop} (v:Value) (hrun:(execOp b.eval o).run P w=.ok (.value v) w') (h:K (b.put o.dst v) w'):o.wp P b w K Q:=by
 unfold Oper.wp
 rw [hrun,Oper.upon_value]
 exact h
theorem wp_of_skip {o:Oper} {b:Act} {w w':World} {K:Act→World→Prop} (hrun:(execOp b.eval o).run P w=.ok .skip w') (h:K (b.put o.dst undef) w'):o.wp P b w K Q:=by
 unfold Oper.wp
 rw [hrun,Oper.upon_skip]
 exact h
theorem wp_of_call {o:Oper} {b:Act} {w w':World} {K:Act→World→Prop} {f:FuncId} {args:Array Value} (hrun:(execOp b.eval o).run P w=.ok (.enter f args) w')
  (h:Calls P f args w' fun e w''=>∃ v,e=.returned v∧K (b.put o.dst v) w''):o.wp P b w K Q:=by
 unfold Oper.wp
 rw [hrun,Oper.upon_enter]
 refine h.mono ?_
 rintro e w'' ⟨v,rfl,hK⟩
 exact hK
theorem qep {o:Oper} {b:Act} {w:World} {K:Act→World→Prop} (x:Operand) (ho:o.op=.move x) {v:Value} (hx:b.eval x=v) (h:K (b.put o.dst v) w):o.wp P b w K Q:=by
 refine qb4 v ?_ h
 unfold execOp
 simp [ho,hx,Sem.run_pure]
theorem wp_call2 {o:Oper} {b:Act} {w:World} {K:Act→World→Prop} {f:FuncId} {x y:Operand} {ts:Array TypeId} (ho:o.op=.call { callee:=.value (.func f),args:=#[x,y],argTypes:=ts }) {u v:Value} (hx:b.eval x=u) (hy:b.eval y=v)
  (hent:(callFunc f #[u,v]).run P w=.ok (.enter f #[u,v]) w)
  (h:Calls P f #[u,v] w fun e w''=>∃ r,e=.returned r∧K (b.put o.dst r) w''):o.wp P b w K Q:=by
 refine wp_of_call ?_ h
 have hf:b.eval (.func f)=.func (.func f) #[] #[]:=rfl
 unfold execOp
 simp only [ho,resolve,invoke,hx,hy,hf,Deferred.ofValue,Array.empty_append,Array.append_empty,hent,List.map_toArray,List.map_cons,List.map_nil,Sem.run_bind,Sem.run_pure,Result.andThen_ok]
end
end Go.Proofs.YtibnehaibgbliaaGreat
namespace Go.Proofs.YtibnehaibgbliaaGreat.Opr
open Go.RowKit Go.Proofs.YtibnehaibgbliaaGreat
section
variable {P:Program} {Q:Exit→Act→World→Prop}
theorem run_ld {o:Oper} {b:Act} (W:World) (x:Operand) {t:TypeId} (ho:o.op=.load t x) {u r:Value} (hx:b.eval x=u) (hr:(Instr.loadAt t u).run P W=.ok r W):(execOp b.eval o).run P W=.ok (.value r) W:=by
 unfold execOp
 simp only [ho,hx]
 simp [hr]
end
end Go.Proofs.YtibnehaibgbliaaGreat.Opr
namespace Go.Proofs.YtibnehaibgbliaaGreat.Mf
open Go.RowKit Go.Proofs.YtibnehaibgbliaaGreat
theorem qbl (w:World) {gb gc gB k e:Nat} {l:List UInt8} (hb:Blk w gb 131 #[.pointer (some ⟨gc,0,none⟩)]) (h:Nu.Cur 169 w gc gB l k e) (hl:l.length≤1000000000000000) :
  Calls Tryz.prog 67 #[.pointer (some ⟨gb,0,none⟩)] w (Nu.CurRet 169 w gc gB l (.int .i64 ((Nu.curNum l k e 1099511627775).1:Nat)) (Nu.curNum l k e 1099511627775).2.1 (Nu.curNum l k e 1099511627775).2.2):=by
 have c0:w.cell? ⟨gb,0,none⟩=some (.pointer (some ⟨gc,0,none⟩)):=hb.cell 0
 have HN:=Jh (Nu.curNum_calls w h hl 1099511627775 (by decide))
 clear hb h
 go_enter Tryz.func67,Tryz.ntmps67
 go_wp2_with fail
 refine HN.out.mono ?_
 rintro e1 w1 ⟨rfl,h1,h2⟩
 clear HN
 go_wp2
 go_ret
 exact ⟨rfl,h1,h2⟩
structure Cv (W:World) (gb gc:Nat) (l:List UInt8) (k e:Nat):Prop where
 cur:Nu.Cur 169 W gc gc l k e
 box:Blk W gb 131 #[.pointer (some ⟨gc,0,none⟩)]
 ne:gc<gb
theorem Cv.call {W W':World} {gb gc k e k' e':Nat} {l:List UInt8} (h:Cv W gb gc l k e) (hc:Nu.Cur 169 W' gc gc l k' e') (ho:Only gc W W'):Cv W' gb gc l k' e':=⟨hc,ho.blk h.box (by have:=h.ne;omega),h.ne⟩
theorem Cv.below {W W':World} {gb gc k e B:Nat} {l:List UInt8} (h:Cv W gb gc l k e) (hb:Below B W W') (hB:gb<B):Cv W' gb gc l k e:=⟨cur_low h.cur hb (by have:=h.ne;omega),h.box.below hb hB,h.ne⟩
theorem Cv.belowS {W W':World} {gb gc k e:Nat} {l:List UInt8} (h:Cv W gb gc l k e) (hb:Below W.heap.size W W'):Cv W' gb gc l k e:=h.below hb h.box.lt
theorem Cv.set {W:World} {gb gc k e g:Nat} {l:List UInt8} (h:Cv W gb gc l k e) (hg:gb<g) (i:Nat) (v:Value):Cv (W.setCell ⟨g,i,none⟩ v) gb gc l k e :=
 ⟨h.cur.far ((Only.refl g W).setCell (.inl rfl) v) (by have:=h.ne;omega) (by have:=h.ne;omega),h.box.far (p:=⟨g,i,none⟩) (by show gb≠g;omega) v,h.ne⟩
def zE9:Array Value:=#[.string ⟨#[]⟩,.int .i64 0,.string ⟨#[]⟩,.int .i64 0,.int .i64 0,.int .i64 0,.int .i64 0,.int .u32 0,.int .i64 0]
def cN:Nat→Nat:=fun r=>(#[1,3,5,7,9,11,13,15,18]:Array Nat).getD r 99
def isC (i:Nat):Bool:=[1,3,5,7,9,11,13,15,18].contains i
structure DeS (val:Nat→Value) (P:Nat→Nat × Nat) (gb gc:Nat) (t:List UInt8) (wr:World) (V:Array Value) (cc:Nat→Bool) (vs:Nat→Value) (W:World):Prop where
 vals:∀ i,cc i=true→i<20→vs i=val i
 cv:∃ j,j≤9∧(∀ r,r<9→(cc (cN r)=true↔r<j))∧Cv W gb gc t (P j).1 (P j).2
 fr:Only gc wr W
 ord:cc 21=true→cc 20=true
 box:cc 20=true→∃ gx,vs 20=.pointer (some ⟨gx,0,none⟩)∧wr.heap.size≤gx∧gb<gx∧Blk W gx 85 (if cc 21 then V else zE9)
section
variable {val:Nat→Value} {P:Nat→Nat × Nat} {gb gc:Nat} {t:List UInt8} {wr:World} {V:Array Value} {cc:Nat→Bool} {vs:Nat→Value} {W W':World}
theorem cN_ne (i r:Nat) (hi:isC i=false) (hr:r<9):cN r≠i:=by
 intro e
 subst e
 have:∀ r,r<9→isC (cN r)=true:=by decide
 rw [this r hr] at hi
 cases hi
theorem cN_inj:∀ r,r<9→∀ q,q<9→cN r=cN q→r=q:=by decide
theorem cN_lt:∀ r,r<9→cN r<20:=by decide
theorem DeS.step (h:DeS val P gb gc t wr V cc vs W) (i:Nat) (hi:i<20) (hc:isC i=false):DeS val P gb gc t wr V (fun j=>if j=i then true else cc j) (fun j=>if j=i then val i else vs j) W:=by
 refine ⟨fun j hj hj2=>?_,?_,h.fr,fun hq=>by rw [if_neg (by omega)] at hq ⊢;exact h.ord hq,fun hb=>?_⟩
 ·by_cases e:j=i
  ·subst e;simp
  ·simp only [if_neg e] at hj ⊢;exact h.vals j hj hj2
 ·obtain ⟨j,h9,h1,h2⟩:=h.cv
  exact ⟨j,h9,fun r hr=>by rw [if_neg (cN_ne i r hc hr)];exact h1 r hr,h2⟩
 ·rw [if_neg (by omega)] at hb
  obtain ⟨gx,h1,h2⟩:=h.box hb
  exact ⟨gx,by simp only [if_neg (show (20:Nat)≠i by omega)];exact h1,by simp only [if_neg (show (21:Nat)≠i by omega)];exact h2⟩
theorem DeS.at_ (h:DeS val P gb gc t wr V cc vs W) (r:Nat) (hr:r<9) (hc:cc (cN r)=false) (hp:0<r→cc (cN (r-1))=true):Cv W gb gc t (P r).1 (P r).2:=by
 obtain ⟨j,-,h1,h2⟩:=h.cv
 have e:j=r:=by
  have k1:¬ r<j:=fun hh=>by have:=(h1 r hr).2 hh;rw [hc] at this;cases this
  rcases Nat.eq_zero_or_pos r with h0|h0
  ·omega
  ·have:=(h1 (r-1) (by omega)).1 (hp h0)
   omega
 rw [← e];exact h2
theorem DeS.call (h:DeS val P gb gc t wr V cc vs W) (r:Nat) (hr:r<9) (hc:cc (cN r)=false) (hp:0<r→cc (cN (r-1))=true) (hcu:Nu.Cur 169 W' gc gc t (P (r+1)).1 (P (r+1)).2) (ho:Only gc W W') :
  DeS val P gb gc t wr V (fun j=>if j=cN r then true else cc j) (fun j=>if j=cN r then val (cN r) else vs j) W':=by
 have hcv:=h.at_ r hr hc hp
 have hl:=cN_lt r hr
 refine ⟨fun j hj hj2=>?_,⟨r+1,by omega,fun q hq=>?_,hcv.call hcu ho⟩,h.fr.trans ho,fun hq=>by rw [if_neg (by omega)] at hq ⊢;exact h.ord hq,fun hb=>?_⟩
 ·by_cases e:j=cN r
  ·subst e;simp
  ·simp only [if_neg e] at hj ⊢;exact h.vals j hj hj2
 ·obtain ⟨j,-,h1,_⟩:=h.cv
  have k1:¬ r<j:=fun hh=>by have:=(h1 r hr).2 hh;rw [hc] at this;cases this
  by_cases e:q=r
  ·subst e;simp
  ·rw [if_neg (fun e'=>e (cN_inj q hq r hr e')),h1 q hq]
   have:r≤j:=by
    rcases Nat.eq_zero_or_pos r with h0|h0
    ·omega
    ·have:=(h1 (r-1) (by omega)).1 (hp h0);omega
   omega
 ·rw [if_neg (by omega)] at hb
  obtain ⟨gx,h1,h2,h3,h4⟩:=h.box hb
  refine ⟨gx,by simp only [if_neg (show (20:Nat)≠cN r by omega)];exact h1,h2,h3,?_⟩
  simp only [if_neg (show (21:Nat)≠cN r by omega)]
  exact ho.blk h4 (by have:=hcv.ne;omega)
theorem DeS.made (h:DeS val P gb gc t wr V cc vs W) (hc:cc 21=false):DeS val P gb gc t wr V (fun j=>if j=20 then true else cc j) (fun j=>if j=20 then .pointer (some ⟨W.heap.size,0,none⟩) else vs j) (W.alloc (.cells zE9 85)):=by
 refine ⟨fun j hj hj2=>?_,?_,h.fr.alloc _,fun _=>if_pos rfl,fun _=>?_⟩
 ·have e:j≠20:=by omega
  simp only [if_neg e] at hj ⊢;exact h.vals j hj hj2
 ·obtain ⟨j,h9,h1,h2⟩:=h.cv
  exact ⟨j,h9,fun r hr=>by rw [if_neg (by have:=cN_lt r hr;omega)];exact h1 r hr,h2.belowS ((Below.refl _ _).alloc (Nat.le_refl _) _)⟩
 ·obtain ⟨j,_,_,h2⟩:=h.cv
  exact ⟨W.heap.size,by simp,h.fr.size,h2.box.lt,by simp only [if_neg (show (21:Nat)≠20 by omega),hc];exact Blk.new _ _ _⟩
def put9 (W:World) (g:Nat) (v0 v1 v2 v3 v4 v5 v6 v7 v8:Value):World:=((((((((W.setCell ⟨g,0,none⟩ v0).setCell ⟨g,1,none⟩ v1).setCell ⟨g,2,none⟩ v2).setCell ⟨g,3,none⟩ v3).setCell ⟨g,4,none⟩ v4).setCell ⟨g,5,none⟩ v5).setCell ⟨g,6,none⟩ v6).setCell ⟨g,7,none⟩ v7).setCell ⟨g,8,none⟩ v8
theorem put9_blk {W:World} {g:Nat} {T:TypeId} (h:Blk W g T zE9) (v0 v1 v2 v3 v4 v5 v6 v7 v8:Value):Blk (put9 W g v0 v1 v2 v3 v4 v5 v6 v7 v8) g T #[v0,v1,v2,v3,v4,v5,v6,v7,v8]:=by
 have:=((((((((h.set_ 0 v0).set_ 1 v1).set_ 2 v2).set_ 3 v3).set_ 4 v4).set_ 5 v5).set_ 6 v6).set_ 7 v7).set_ 8 v8
 simpa [put9,zE9] using this
theorem put9_cv {W:World} {gb gc k e g:Nat} {l:List UInt8} (h:Cv W gb gc l k e) (hg:gb<g) (v0 v1 v2 v3 v4 v5 v6 v7 v8:Value):Cv (put9 W g v0 v1 v2 v3 v4 v5 v6 v7 v8) gb gc l k e :=
 ((((((((h.set hg 0 v0).set hg 1 v1).set hg 2 v2).set hg 3 v3).set hg 4 v4).set hg 5 v5).set hg 6 v6).set hg 7 v7).set hg 8 v8
theorem put9_only {W w:World} {gc g:Nat} (h:Only gc w W) (hg:w.heap.size≤g) (v0 v1 v2 v3 v4 v5 v6 v7 v8:Value):Only gc w (put9 W g v0 v1 v2 v3 v4 v5 v6 v7 v8) :=
 ((((((((h.setCell (p:=⟨g,0,none⟩) (.inr hg) v0).setCell (p:=⟨g,1,none⟩) (.inr hg) v1).setCell (p:=⟨g,2,none⟩) (.inr hg) v2).setCell (p:=⟨g,3,none⟩) (.inr hg) v3).setCell (p:=⟨g,4,none⟩) (.inr hg) v4).setCell (p:=⟨g,5,none⟩) (.inr hg) v5).setCell (p:=⟨g,6,none⟩) (.inr hg) v6).setCell (p:=⟨g,7,none⟩) (.inr hg) v7).setCell (p:=⟨g,8,none⟩) (.inr hg) v8
theorem DeS.put {v0 v1 v2 v3 v4 v5 v6 v7 v8:Value} (h:DeS val P gb gc t wr #[v0,v1,v2,v3,v4,v5,v6,v7,v8] cc vs W) {gx:Nat} (hc:cc 21=false) (h20:cc 20=true) (hv:vs 20=.pointer (some ⟨gx,0,none⟩)) (v:Value) :
  DeS val P gb gc t wr #[v0,v1,v2,v3,v4,v5,v6,v7,v8] (fun j=>if j=21 then true else cc j) (fun j=>if j=21 then v else vs j) (put9 W gx v0 v1 v2 v3 v4 v5 v6 v7 v8):=by
 obtain ⟨g,h1,h2,h3,h4⟩:=h.box h20
 rw [hv] at h1
 injection h1 with h1
 injection h1 with h1
 injection h1 with h1
 subst h1
 simp only [hc] at h4
 refine ⟨fun j hj hj2=>?_,?_,put9_only h.fr h2 _ _ _ _ _ _ _ _ _,fun _=>by rw [if_neg (by omega)];exact h20,fun _=>⟨gx,by simp [hv],h2,h3,?_⟩⟩
 ·have e:j≠21:=by omega
  simp only [if_neg e] at hj ⊢;exact h.vals j hj hj2
 ·obtain ⟨j,h9,k1,k2⟩:=h.cv
  exact ⟨j,h9,fun r hr=>by rw [if_neg (by have:=cN_lt r hr;omega)];exact k1 r hr,put9_cv k2 h3 _ _ _ _ _ _ _ _ _⟩
 ·simp only [if_true]
  exact put9_blk h4 _ _ _ _ _ _ _ _ _
theorem DeS.fin (h:DeS val P gb gc t wr V cc vs W) (hall:∀ j,j<22→cc j=true):∃ gx,vs 20=.pointer (some ⟨gx,0,none⟩)∧wr.heap.size≤gx∧gb<gx∧Blk W gx 85 V∧Cv W gb gc t (P 9).1 (P 9).2∧Only gc wr W:=by
 obtain ⟨gx,h1,h2,h3,h4⟩:=h.box (hall 20 (by omega))
 rw [hall 21 (by omega),if_pos rfl] at h4
 obtain ⟨j,h9,k1,k2⟩:=h.cv
 have hj:¬ j<9:=fun hh=>by
  have:=(k1 j hh).1 (hall _ (by have:=cN_lt j hh;omega))
  omega
 obtain rfl:j=9:=by omega
 exact ⟨gx,h1,h2,h3,h4,k2,h.fr⟩
end
section
variable {Q:Exit→Act→World→Prop} {P:Program}
theorem qcm {o:Oper} {b:Act} {w:World} {K:Act→World→Prop} {f:FuncId} {tv:Operand} {ts:Array TypeId} {c:Value} (ho:o.op=.call { callee:=.value tv,args:=#[],argTypes:=ts }) (hf:b.eval tv=.func (.func f) #[] #[c])
  (hent:(callFunc f #[c]).run P w=.ok (.enter f #[c]) w)
  (h:Calls P f #[c] w fun e w''=>∃ r,e=.returned r∧K (b.put o.dst r) w''):o.wp P b w K Q:=by
 refine wp_of_call ?_ h
 unfold execOp
 simp only [ho,resolve,invoke,hf,Deferred.ofValue,Array.empty_append,Array.append_empty,hent,List.map_toArray,List.map_cons,List.map_nil,Sem.run_bind,Sem.run_pure,Result.andThen_ok]
end
theorem run_al9 {o:Oper} {b:Act} (W:World) (ho:o.op=.alloc 85):(execOp b.eval o).run Tryz.prog W=.ok (.value (.pointer (some ⟨W.heap.size,0,none⟩))) (W.alloc (.cells zE9 85)):=by
 unfold execOp
 simp [go_sem,ho,zE9]
theorem run_cv32 {o:Oper} {b:Act} (W:World) (ho:o.op=.convert 3 83 (.tmp 53)) {n:Int} (hx:b.eval (.tmp 53)=.int .i64 n) (hw:IntKind.u32.wrap n=n):(execOp b.eval o).run Tryz.prog W=.ok (.value (.int .u32 n)) W:=by
 have e0:b.tmps[53]?.getD undef=.int .i64 n:=by simpa [Act.eval] using hx
 unfold execOp
 simp [go_sem,ho,e0,hw]
theorem run_bd9 {o:Oper} {b:Act} (W:World) (ho:o.op=.build 85 #[(0,.tmp 39),(1,.tmp 41),(2,.tmp 43),(3,.tmp 45),(4,.tmp 47),(5,.tmp 49),(6,.tmp 51),(7,.tmp 54),(8,.tmp 56)]) (a:ByteArray) (n1:Int) (c:ByteArray) (n2 n3 n4 n5 n6 n7:Int)
  (h0:b.eval (.tmp 39)=.string a) (h1:b.eval (.tmp 41)=.int .i64 n1) (h2:b.eval (.tmp 43)=.string c) (h3:b.eval (.tmp 45)=.int .i64 n2) (h4:b.eval (.tmp 47)=.int .i64 n3) (h5:b.eval (.tmp 49)=.int .i64 n4) (h6:b.eval (.tmp 51)=.int .i64 n5) (h7:b.eval (.tmp 54)=.int .u32 n6) (h8:b.eval (.tmp 56)=.int .i64 n7) :
  (execOp b.eval o).run Tryz.prog W=.ok (.value (.agg #[.string a,.int .i64 n1,.string c,.int .i64 n2,.int .i64 n3,.int .i64 n4,.int .i64 n5,.int .u32 n6,.int .i64 n7])) W:=by
 have e0:b.tmps[39]?.getD undef=.string a:=by simpa [Act.eval] using h0
 have e1:b.tmps[41]?.getD undef=.int .i64 n1:=by simpa [Act.eval] using h1
 have e2:b.tmps[43]?.getD undef=.string c:=by simpa [Act.eval] using h2
 have e3:b.tmps[45]?.getD undef=.int .i64 n2:=by simpa [Act.eval] using h3
 have e4:b.tmps[47]?.getD undef=.int .i64 n3:=by simpa [Act.eval] using h4
 have e5:b.tmps[49]?.getD undef=.int .i64 n4:=by simpa [Act.eval] using h5
 have e6:b.tmps[51]?.getD undef=.int .i64 n5:=by simpa [Act.eval] using h6
 have e7:b.tmps[54]?.getD undef=.int .u32 n6:=by simpa [Act.eval] using h7
 have e8:b.tmps[56]?.getD undef=.int .i64 n7:=by simpa [Act.eval] using h8
 unfold execOp
 simp [go_sem,ho,e0,e1,e2,e3,e4,e5,e6,e7,e8]
theorem run_st9 {o:Oper} {b:Act} (W:World) {gx:Nat} (ho:o.op=.store 85 (.tmp 10) (.tmp 57)) (a:ByteArray) (n1:Int) (c:ByteArray) (n2 n3 n4 n5 n6 n7:Int) (h0:b.eval (.tmp 10)=.pointer (some ⟨gx,0,none⟩)) (h1:b.eval (.tmp 57)=.agg #[.string a,.int .i64 n1,.string c,.int .i64 n2,.int .i64 n3,.int .i64 n4,.int .i64 n5,.int .u32 n6,.int .i64 n7]) (hb:Blk W gx 85 zE9) :
  (execOp b.eval o).run Tryz.prog W=.ok .skip (put9 W gx (.string a) (.int .i64 n1) (.string c) (.int .i64 n2) (.int .i64 n3) (.int .i64 n4) (.int .i64 n5) (.int .u32 n6) (.int .i64 n7)):=by
 have e0:b.tmps[10]?.getD undef=.pointer (some ⟨gx,0,none⟩):=by simpa [Act.eval] using h0
 have e1:b.tmps[57]?.getD undef=.agg #[.string a,.int .i64 n1,.string c,.int .i64 n2,.int .i64 n3,.int .i64 n4,.int .i64 n5,.int .u32 n6,.int .i64 n7]:=by simpa [Act.eval] using h1
 obtain ⟨z0,z1,z2,z3,z4,z5,z6,z7,z8⟩:W.cell? ⟨gx,0,none⟩=some (.string ⟨#[]⟩)∧W.cell? ⟨gx,1,none⟩=some (.int .i64 0)∧W.cell? ⟨gx,2,none⟩=some (.string ⟨#[]⟩)∧W.cell? ⟨gx,3,none⟩=some (.int .i64 0)∧W.cell? ⟨gx,4,none⟩=some (.int .i64 0)∧W.cell? ⟨gx,5,none⟩=some (.int .i64 0)∧W.cell? ⟨gx,6,none⟩=some (.int .i64 0)∧W.cell? ⟨gx,7,none⟩=some (.int .u32 0)∧W.cell? ⟨gx,8,none⟩=some (.int .i64 0):=⟨hb.cell 0,hb.cell 1,hb.cell 2,hb.cell 3,hb.cell 4,hb.cell 5,hb.cell 6,hb.cell 7,hb.cell 8⟩
 obtain ⟨f0,f1,f2,f3,f4,f5,f6,f7,f8⟩:W.frozen? ⟨gx,0,none⟩=false∧W.frozen? ⟨gx,1,none⟩=false∧W.frozen? ⟨gx,2,none⟩=false∧W.frozen? ⟨gx,3,none⟩=false∧W.frozen? ⟨gx,4,none⟩=false∧W.frozen? ⟨gx,5,none⟩=false∧W.frozen? ⟨gx,6,none⟩=false∧W.frozen? ⟨gx,7,none⟩=false∧W.frozen? ⟨gx,8,none⟩=false:=⟨hb.frozen 0,hb.frozen 1,hb.frozen 2,hb.frozen 3,hb.frozen 4,hb.frozen 5,hb.frozen 6,hb.frozen 7,hb.frozen 8⟩
 unfold execOp
 simp [go_sem,ho,e0,e1,put9,z0,z1,z2,z3,z4,z5,z6,z7,z8,f0,f1,f2,f3,f4,f5,f6,f7,f8]
end Go.Proofs.YtibnehaibgbliaaGreat.Mf
