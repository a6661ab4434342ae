/- Laws for the row's walk. -/
import Derived.Test.YtibnehaibgbliaaGreatR09
import Derived.Test.YtibnehaibgbliaaGreatR10
import Derived.Lib.SliceRun
set_option linter.unusedVariables false
set_option linter.unusedSimpArgs false
open Go.Lib renaming hid → Jh
namespace Go.Proofs.YtibnehaibgbliaaGreat.Mf
open Go.RowKit Go.Proofs.YtibnehaibgbliaaGreat
def cmpI (a b:Int):Int:=if a<b then -1 else if b<a then 1 else 0
theorem cmpI_neg (a b:Int):decide (cmpI a b<0)=decide (a<b):=by
 unfold cmpI
 by_cases h1:a<b
 ·rw [if_pos h1,dct h1];rfl
 ·rw [if_neg h1,dcf h1];split<;>rfl
theorem cmpI_zero (a b:Int):(cmpI a b == 0)=decide (a=b):=by
 unfold cmpI
 by_cases h1:a<b
 ·rw [if_pos h1,dcf (by omega)];rfl
 ·rw [if_neg h1]
  by_cases h2:b<a
  ·rw [if_pos h2,dcf (by omega)];rfl
  ·rw [if_neg h2,dct (by omega)];rfl
theorem nanI (x:Int) (w:World):Calls Tryz.prog 145 #[.int .i64 x] w fun e w'=>e=.returned (.bool false)∧w=w':=by
 have hx:(x != x)=false:=nef rfl
 go_enter Tryz.func145,Tryz.ntmps145
 go_wp2
 go_ret
 exact ⟨rfl,rfl⟩
set_option maxRecDepth 100000 in
theorem cmpI_calls (x y:Int) (w:World):Calls Tryz.prog 129 #[.int .i64 x,.int .i64 y] w fun e w'=>e=.returned (.int .i64 (cmpI x y))∧w=w':=by
 have hcase:(x<y∧cmpI x y=-1)∨(¬ x<y∧y<x∧cmpI x y=1)∨(¬ x<y∧¬ y<x∧cmpI x y=0):=by
  unfold cmpI
  by_cases h1:x<y
  ·exact .inl ⟨h1,by rw [if_pos h1]⟩
  ·by_cases h2:y<x
   ·exact .inr (.inl ⟨h1,h2,by rw [if_neg h1,if_pos h2]⟩)
   ·exact .inr (.inr ⟨h1,h2,by rw [if_neg h1,if_neg h2]⟩)
 rcases hcase with ⟨h1,h⟩|⟨h1,h2,h⟩|⟨h1,h2,h⟩
 all_goals
  have HX:=Jh h
  clear h
  go_enter Tryz.func129,Tryz.ntmps129
  go_wp2_with fail
  refine (nanI x w).mono ?_
  rintro e w1 ⟨rfl,rfl⟩
  go_wp2_with fail
  refine (nanI y w).mono ?_
  rintro e w1 ⟨rfl,rfl⟩
  go_wp2
  go_ret
  exact ⟨by rw [HX.out];rfl,rfl⟩
section
variable {α:Type} [Inhabited α]
theorem posL_at {f:α→Int} {n:Int}:∀ {l:List α} {j:Nat},j≤l.length→(∀ i,i<j→f (gt l i)<n)→(j<l.length→n≤f (gt l j))→posL f n l=j
 | [],j,hj,_,_=>by simp at hj;subst hj;rfl
 | y::r,0,_,_,h=>by
  unfold posL
  rw [if_neg (by have:n≤f y:=h (by simp);omega)]
 | y::r,j+1,hj,h1,h2=>by
  unfold posL
  rw [if_pos (show f y<n from h1 0 (by omega)),posL_at (l:=r) (j:=j) (by simpa using hj) (fun i hi=>h1 (i+1) (by omega)) (fun hh=>h2 (by simpa using hh))]
theorem srt_gt {f:α→Int} {l:List α} (h:Srt f l) {i j:Nat} (hij:i<j) (hj:j<l.length):f (gt l i)<f (gt l j):=by
 rw [Srt,List.pairwise_iff_getElem] at h
 have:=h i j (by omega) hj hij
 rw [gt_eq,gt_eq] at this
 exact this
def Cmps (w0:World) (g:Nat) (lb:Array Value) (V:α→Value) (f:α→Int) (k:Int):Prop :=
 (∀ args w,(callFunc g args).run Tryz.prog w=.ok (.enter g args) w)∧∀ x W,Below w0.heap.size w0 W→Calls Tryz.prog g (#[V x,.int .i64 k]++lb) W fun e w'=>e=.returned (.int .i64 (cmpI (f x) k))∧Below W.heap.size W w'
end
theorem half_in {a b:Nat} (h:a<b) (hb:b≤17592186044416):a≤(a+b)/2∧(a+b)/2<b:=by omega
set_option maxRecDepth 100000 in
set_option maxHeartbeats 3200000 in
theorem searchM_calls (w:World) {B c g:Nat} {lb:Array Value} {A:Option Addr} {l:List Mk} {k:Int} (ht:Cmps w g lb mkV Mk.maker k) (h:Reads w B 2 A l.length (l.flatMap Mk.cs)) (hB:B≤w.heap.size) (hn:l.length≤17592186044416) (hs:Srt Mk.maker l) :
  Calls Tryz.prog 127 #[.slice A l.length c,.int .i64 k,.func (.func g) #[] lb] w fun e w'=>e=.returned (.tuple #[.int .i64 (posL Mk.maker k l:Nat),.bool (thereL Mk.maker k l)])∧Below w.heap.size w w':=by
 have HR:=Jh h
 have HT:=Jh ht.2
 have HS:=Jh hs
 have eg:=ht.1
 clear h ht hs
 go_enter Tryz.func127,Tryz.ntmps127
 go_wp2
 go_loopw [9,10] (fun i j wr=>∃ a b:Nat,a≤b∧b≤l.length∧i=.int .i64 (a:Int)∧j=.int .i64 (b:Int)∧Hid (∀ t,t<a→Mk.maker (gt l t)<k)∧Hid (∀ t,b≤t→t<l.length→k≤Mk.maker (gt l t))∧Below w.heap.size w wr) (fun i j _=>(intOf j).toNat-(intOf i).toNat)
 case atStart=>exact ⟨0,l.length,Nat.zero_le _,Nat.le_refl _,rfl,rfl,Jh (fun t ht=>absurd ht (Nat.not_lt_zero t)),Jh (fun t h1 h2=>absurd h2 (by omega)),Below.refl _ _⟩
 case round =>
  obtain ⟨a,b,hab,hbl,rfl,rfl,HA,HZ,hbel⟩:=hrel
  by_cases hlt:a<b
  ·have hsz:=hbel.size
   have hr:=HR.out.below (hbel.mono hB)
   obtain ⟨bb,off,rfl,hbB⟩:=row_addr hr (by omega)
   have hh:=half_in hlt (by omega:b≤17592186044416)
   have hhl:(a+b)/2<l.length:=by omega
   obtain ⟨p0,p1⟩:wr.cell? ⟨bb,off+(a+b)/2*2,none⟩=some (.int .i64 (gt l ((a+b)/2)).maker)∧wr.cell? ⟨bb,off+(a+b)/2*2+1,none⟩=some (.int .i64 (gt l ((a+b)/2)).seq):=⟨row_cell mcs_len hr hhl (j:=0) rfl,row_cell mcs_len hr hhl (j:=1) rfl⟩
   have HT2:=Jh (HT.out (gt l ((a+b)/2)) wr hbel)
   have HLo:Hid (Mk.maker (gt l ((a+b)/2))<k→∀ t,t<(a+b)/2+1→Mk.maker (gt l t)<k):=Jh fun h t ht=>by
    rcases Nat.lt_or_ge t ((a+b)/2) with h1|h1
    ·have:=srt_gt HS.out h1 hhl;omega
    ·obtain rfl:t=(a+b)/2:=by omega
     exact h
   have HHi:Hid (¬ Mk.maker (gt l ((a+b)/2))<k→∀ t,(a+b)/2≤t→t<l.length→k≤Mk.maker (gt l t)):=Jh fun h t h1 h2=>by
    rcases Nat.lt_or_ge ((a+b)/2) t with h3|h3
    ·have:=srt_gt HS.out h3 h2;omega
    ·obtain rfl:t=(a+b)/2:=by omega
     omega
   have HC:=Jh (cmpI_neg (Mk.maker (gt l ((a+b)/2))) k)
   clear hr HR HT HS
   generalize gt l ((a+b)/2)=x at *
   generalize cmpI (Mk.maker x) k=z at *
   by_cases hc:Mk.maker x<k
   ·have t0:decide (z<0)=true:=by rw [HC.out,dct hc]
    have HA2:=Jh (HLo.out hc)
    clear HLo HHi HC hc HA
    go_wp2_with fail
    refine HT2.out.mono ?_
    rintro e w' ⟨rfl,hb'⟩
    have hbe:=hbel.trans (hb'.mono hsz)
    go_wp2
    go_roundw
    case rel=>exact ⟨(a+b)/2+1,b,by omega,by omega,by go_num,rfl,HA2,HZ,hbe⟩
    case measure=>simp [intOf];omega
   ·have t0:decide (z<0)=false:=by rw [HC.out,dcf hc]
    have HZ2:=Jh (HHi.out hc)
    clear HLo HHi HC hc HZ
    go_wp2_with fail
    refine HT2.out.mono ?_
    rintro e w' ⟨rfl,hb'⟩
    have hbe:=hbel.trans (hb'.mono hsz)
    go_wp2
    go_roundw
    case rel=>exact ⟨a,(a+b)/2,by omega,by omega,rfl,by go_num,HA,HZ2,hbe⟩
    case measure=>simp [intOf];omega
  ·obtain rfl:a=b:=by omega
   have HP:Hid (posL Mk.maker k l=a):=Jh (posL_at hbl HA.out (fun h=>HZ.out a (Nat.le_refl _) h))
   by_cases hal:a<l.length
   ·have hsz:=hbel.size
    have hr:=HR.out.below (hbel.mono hB)
    obtain ⟨bb,off,rfl,hbB⟩:=row_addr hr (by omega)
    obtain ⟨p0,p1⟩:wr.cell? ⟨bb,off+a*2,none⟩=some (.int .i64 (gt l a).maker)∧wr.cell? ⟨bb,off+a*2+1,none⟩=some (.int .i64 (gt l a).seq):=⟨row_cell mcs_len hr hal (j:=0) rfl,row_cell mcs_len hr hal (j:=1) rfl⟩
    have HT2:=Jh (HT.out (gt l a) wr hbel)
    have HC:=Jh (cmpI_zero (Mk.maker (gt l a)) k)
    have HQ:Hid (thereL Mk.maker k l=decide (Mk.maker (gt l a)=k)):=Jh (by unfold thereL;rw [HP.out,dct hal];rfl)
    have d1:decide ((a:Int)<(l.length:Int))=true:=dct (by omega)
    clear hr HR HT HS HA HZ
    generalize gt l a=x at *
    generalize cmpI (Mk.maker x) k=z at *
    go_wp2_with fail
    refine HT2.out.mono ?_
    rintro e w' ⟨rfl,hb'⟩
    have hbe:=hbel.trans (hb'.mono hsz)
    go_wp2
    go_ret2
    exact ⟨by rw [HP.out,HQ.out,← HC.out];rfl,hbe⟩
   ·have d1:decide ((a:Int)<(l.length:Int))=false:=dcf (by omega)
    have HQ:Hid (thereL Mk.maker k l=false):=Jh (by unfold thereL;rw [HP.out,dcf hal];rfl)
    go_wp2
    go_ret2
    exact ⟨by rw [HP.out,HQ.out];rfl,hbel⟩
set_option maxRecDepth 100000 in
set_option maxHeartbeats 3200000 in
theorem searchO_calls (w:World) {B c g:Nat} {lb:Array Value} {A:Option Addr} {l:List Ow} {k:Int} (ht:Cmps w g lb owV Ow.agent k) (h:Reads w B 3 A l.length (l.flatMap Ow.cs)) (hB:B≤w.heap.size) (hn:l.length≤17592186044416) (hs:Srt Ow.agent l) :
  Calls Tryz.prog 131 #[.slice A l.length c,.int .i64 k,.func (.func g) #[] lb] w fun e w'=>e=.returned (.tuple #[.int .i64 (posL Ow.agent k l:Nat),.bool (thereL Ow.agent k l)])∧Below w.heap.size w w':=by
 have HR:=Jh h
 have HT:=Jh ht.2
 have HS:=Jh hs
 have eg:=ht.1
 clear h ht hs
 go_enter Tryz.func131,Tryz.ntmps131
 go_wp2
 go_loopw [9,10] (fun i j wr=>∃ a b:Nat,a≤b∧b≤l.length∧i=.int .i64 (a:Int)∧j=.int .i64 (b:Int)∧Hid (∀ t,t<a→Ow.agent (gt l t)<k)∧Hid (∀ t,b≤t→t<l.length→k≤Ow.agent (gt l t))∧Below w.heap.size w wr) (fun i j _=>(intOf j).toNat-(intOf i).toNat)
 case atStart=>exact ⟨0,l.length,Nat.zero_le _,Nat.le_refl _,rfl,rfl,Jh (fun t ht=>absurd ht (Nat.not_lt_zero t)),Jh (fun t h1 h2=>absurd h2 (by omega)),Below.refl _ _⟩
 case round =>
  obtain ⟨a,b,hab,hbl,rfl,rfl,HA,HZ,hbel⟩:=hrel
  by_cases hlt:a<b
  ·have hsz:=hbel.size
   have hr:=HR.out.below (hbel.mono hB)
   obtain ⟨bb,off,rfl,hbB⟩:=row_addr hr (by omega)
   have hh:=half_in hlt (by omega:b≤17592186044416)
   have hhl:(a+b)/2<l.length:=by omega
   obtain ⟨p0,p1,p2⟩:wr.cell? ⟨bb,off+(a+b)/2*3,none⟩=some (.int .i64 (gt l ((a+b)/2)).agent)∧wr.cell? ⟨bb,off+(a+b)/2*3+1,none⟩=some (.int .i64 (gt l ((a+b)/2)).life)∧wr.cell? ⟨bb,off+(a+b)/2*3+2,none⟩=some (.int .i64 (gt l ((a+b)/2)).count):=⟨row_cell ocs_len hr hhl (j:=0) rfl,row_cell ocs_len hr hhl (j:=1) rfl,row_cell ocs_len hr hhl (j:=2) rfl⟩
   have HT2:=Jh (HT.out (gt l ((a+b)/2)) wr hbel)
   have HLo:Hid (Ow.agent (gt l ((a+b)/2))<k→∀ t,t<(a+b)/2+1→Ow.agent (gt l t)<k):=Jh fun h t ht=>by
    rcases Nat.lt_or_ge t ((a+b)/2) with h1|h1
    ·have:=srt_gt HS.out h1 hhl;omega
    ·obtain rfl:t=(a+b)/2:=by omega
     exact h
   have HHi:Hid (¬ Ow.agent (gt l ((a+b)/2))<k→∀ t,(a+b)/2≤t→t<l.length→k≤Ow.agent (gt l t)):=Jh fun h t h1 h2=>by
    rcases Nat.lt_or_ge ((a+b)/2) t with h3|h3
    ·have:=srt_gt HS.out h3 h2;omega
    ·obtain rfl:t=(a+b)/2:=by omega
     omega
   have HC:=Jh (cmpI_neg (Ow.agent (gt l ((a+b)/2))) k)
   clear hr HR HT HS
   generalize gt l ((a+b)/2)=x at *
   generalize cmpI (Ow.agent x) k=z at *
   by_cases hc:Ow.agent x<k
   ·have t0:decide (z<0)=true:=by rw [HC.out,dct hc]
    have HA2:=Jh (HLo.out hc)
    clear HLo HHi HC hc HA
    go_wp2_with fail
    refine HT2.out.mono ?_
    rintro e w' ⟨rfl,hb'⟩
    have hbe:=hbel.trans (hb'.mono hsz)
    go_wp2
    go_roundw
    case rel=>exact ⟨(a+b)/2+1,b,by omega,by omega,by go_num,rfl,HA2,HZ,hbe⟩
    case measure=>simp [intOf];omega
   ·have t0:decide (z<0)=false:=by rw [HC.out,dcf hc]
    have HZ2:=Jh (HHi.out hc)
    clear HLo HHi HC hc HZ
    go_wp2_with fail
    refine HT2.out.mono ?_
    rintro e w' ⟨rfl,hb'⟩
    have hbe:=hbel.trans (hb'.mono hsz)
    go_wp2
    go_roundw
    case rel=>exact ⟨a,(a+b)/2,by omega,by omega,rfl,by go_num,HA,HZ2,hbe⟩
    case measure=>simp [intOf];omega
  ·obtain rfl:a=b:=by omega
   have HP:Hid (posL Ow.agent k l=a):=Jh (posL_at hbl HA.out (fun h=>HZ.out a (Nat.le_refl _) h))
   by_cases hal:a<l.length
   ·have hsz:=hbel.size
    have hr:=HR.out.below (hbel.mono hB)
    obtain ⟨bb,off,rfl,hbB⟩:=row_addr hr (by omega)
    obtain ⟨p0,p1,p2⟩:wr.cell? ⟨bb,off+a*3,none⟩=some (.int .i64 (gt l a).agent)∧wr.cell? ⟨bb,off+a*3+1,none⟩=some (.int .i64 (gt l a).life)∧wr.cell? ⟨bb,off+a*3+2,none⟩=some (.int .i64 (gt l a).count):=⟨row_cell ocs_len hr hal (j:=0) rfl,row_cell ocs_len hr hal (j:=1) rfl,row_cell ocs_len hr hal (j:=2) rfl⟩
    have HT2:=Jh (HT.out (gt l a) wr hbel)
    have HC:=Jh (cmpI_zero (Ow.agent (gt l a)) k)
    have HQ:Hid (thereL Ow.agent k l=decide (Ow.agent (gt l a)=k)):=Jh (by unfold thereL;rw [HP.out,dct hal];rfl)
    have d1:decide ((a:Int)<(l.length:Int))=true:=dct (by omega)
    clear hr HR HT HS HA HZ
    generalize gt l a=x at *
    generalize cmpI (Ow.agent x) k=z at *
    go_wp2_with fail
    refine HT2.out.mono ?_
    rintro e w' ⟨rfl,hb'⟩
    have hbe:=hbel.trans (hb'.mono hsz)
    go_wp2
    go_ret2
    exact ⟨by rw [HP.out,HQ.out,← HC.out];rfl,hbe⟩
   ·have d1:decide ((a:Int)<(l.length:Int))=false:=dcf (by omega)
    have HQ:Hid (thereL Ow.agent k l=false):=Jh (by unfold thereL;rw [HP.out,dcf hal];rfl)
    go_wp2
    go_ret2
    exact ⟨by rw [HP.out,HQ.out];rfl,hbel⟩
section
variable {α:Type} {cs:α→List Value} {k:Nat}
theorem flat_take (h:∀ x,(cs x).length=k):∀ (l:List α) (i:Nat),(l.flatMap cs).take (i*k)=(l.take i).flatMap cs
 | [],i=>by simp
 | x::r,0=>by simp
 | x::r,i+1=>by
  rw [List.flatMap_cons,List.take_succ_cons,List.flatMap_cons,show (i+1)*k=(cs x).length+i*k by rw [h,Nat.succ_mul];omega,List.take_length_add_append,flat_take h r i]
theorem flat_drop (h:∀ x,(cs x).length=k):∀ (l:List α) (i:Nat),(l.flatMap cs).drop (i*k)=(l.drop i).flatMap cs
 | [],i=>by simp
 | x::r,0=>by simp
 | x::r,i+1=>by
  rw [List.flatMap_cons,List.drop_succ_cons,show (i+1)*k=(cs x).length+i*k by rw [h,Nat.succ_mul];omega,List.drop_length_add_append,flat_drop h r i]
theorem flat_ins (h:∀ x,(cs x).length=k) (l:List α) (i:Nat) (x:α):(l.flatMap cs).take (i*k)++cs x++(l.flatMap cs).drop (i*k)=(l.take i++[x]++l.drop i).flatMap cs:=by
 rw [flat_take h,flat_drop h,List.flatMap_append,List.flatMap_append];simp
theorem flat_set (h:∀ x,(cs x).length=k) {l:List α} {i:Nat} (hi:i<l.length) (x:α):(l.flatMap cs).take (i*k)++cs x++(l.flatMap cs).drop ((i+1)*k)=(l.set i x).flatMap cs:=by
 rw [flat_take h,flat_drop h,List.set_eq_take_append_cons_drop,if_pos hi,List.flatMap_append,List.flatMap_cons,List.append_assoc]
theorem flat_len (h:∀ x,(cs x).length=k) (l:List α):(l.flatMap cs).length=l.length*k:=by
 induction l with
 | nil=>simp
 | cons a r ih=>rw [List.flatMap_cons,List.length_append,ih,h,List.length_cons,Nat.succ_mul];omega
theorem put_over {F:Array Value} {xs xv:List Value} {a:Nat} (ha:a+xv.length≤xs.length) (hF:xs.length≤F.size)
  (h1:∀ j,j<a→F[j]?=xs[j]?) (h2:∀ j,j<xv.length→F[a+j]?=xv[j]?) (h3:∀ j,a+xv.length≤j→j<xs.length→F[j]?=xs[j]?) :
  F.toList.take xs.length=xs.take a++xv++xs.drop (a+xv.length):=by
 apply List.ext_getElem?
 intro j
 have hta:(xs.take a).length=a:=by rw [List.length_take];omega
 by_cases hj:j<xs.length
 ·rw [List.getElem?_take,if_pos hj,Array.getElem?_toList]
  rcases Nat.lt_or_ge j a with c1|c1
  ·rw [h1 j c1,List.append_assoc,List.getElem?_append_left (by omega),List.getElem?_take,if_pos c1]
  ·rcases Nat.lt_or_ge j (a+xv.length) with c2|c2
   ·have:=h2 (j-a) (by omega)
    rw [show a+(j-a)=j by omega] at this
    rw [this,List.getElem?_append_left (by rw [List.length_append];omega),List.getElem?_append_right (by omega),hta]
   ·rw [h3 j c2 hj,List.getElem?_append_right (by rw [List.length_append];omega),List.getElem?_drop,List.length_append,hta]
    congr 1
    omega
 ·rw [List.getElem?_eq_none (by rw [List.length_take];omega),List.getElem?_eq_none (by rw [List.length_append,List.length_append,List.length_drop];omega)]
theorem own_over (h:∀ x,(cs x).length=k) {w:World} {base i c:Nat} {e:TypeId} {A:Option Addr} {l:List α} (ho:w.ownsRow base e k (.slice A l.length c) l.length (l.flatMap cs)) (hi:i<l.length) (x:α) :
  ∃ g,A=some ⟨g,0,none⟩∧(w.setCells g (i*k) (cs x)).ownsRow base e k (.slice A l.length c) l.length ((l.set i x).flatMap cs)∧Only g w (w.setCells g (i*k) (cs x))∧(∀ j,w.frozen? ⟨g,j,none⟩=false)∧∀ j,j<l.length*k→(w.cell? ⟨g,j,none⟩).isSome=true:=by
 obtain ⟨g,cur,rfl,hbg,hg,hnc,hcm,hcs,hct⟩:=own_blk ho (by omega)
 have hxl:=ho.1
 have hik:i*k+k≤l.length*k:=by rw [← Nat.succ_mul];exact Nat.mul_le_mul_right _ hi
 have hlc:l.length*k≤cur.size:=by rw [hcs];exact Nat.mul_le_mul_right _ hnc
 refine ⟨g,rfl,own_of_blk hbg (Blk.setCells_ _ _ hg) hnc hcm (by rw [putAt_size];exact hcs) ?_ (by rw [flat_len h,List.length_set]),Only.setCells_ _ _ (Only.refl _ w),fun j=>hg.frozen j,fun j hj=>by rw [hg.cell,Array.getElem?_eq_getElem (by omega)];rfl⟩
 have hcell:∀ j,j<(l.flatMap cs).length→cur[j]?=(l.flatMap cs)[j]?:=fun j hj=>by rw [← hct,List.getElem?_take,if_pos (by omega),Array.getElem?_toList]
 have:=put_over (F:=putAt cur (i*k) (cs x)) (xs:=l.flatMap cs) (xv:=cs x) (a:=i*k) (by rw [h,hxl];exact hik) (by rw [putAt_size,hxl];exact hlc)
  (fun j hj=>by rw [putAt_out _ _ _ j (by omega)];exact hcell j (by omega))
  (fun j hj=>putAt_in _ _ _ j (by rw [h];omega) hj)
  (fun j h1 h2=>by rw [putAt_out _ _ _ j (by omega)];exact hcell j h2)
 rw [hxl,h,show i*k+k=(i+1)*k by rw [Nat.succ_mul],flat_set h hi] at this
 exact this
end
theorem below_grown {w w':World} (h:Below w.heap.size w w') (row:Option Nat):w.grownBy w' row:=⟨h.os,h.tape,h.output,h.size,fun i hi _=>h.block i hi⟩
def RetPut (w:World) (base size:Nat) (e:TypeId) (v:Value) (n:Nat) (ys:List Value) (en:Ending) (w':World):Prop :=
 ∃ A' c',en=.returned (.slice A' n c')∧w'.ownsRow base e size (.slice A' n c') n ys∧w.grownBy w' v.ownBlock∧((Value.slice A' n c').ownBlock=v.ownBlock∨∃ g,(Value.slice A' n c').ownBlock=some g∧w.heap.size≤g)
theorem put1M_calls (x:Mk) (k:Int) (w:World) {gf:Nat} (hf:w.cell? ⟨gf,0,none⟩=some (.func (.func 93) #[] #[])):Calls Tryz.prog 128 #[mkV x,.int .i64 k,.pointer (some ⟨gf,0,none⟩)] w fun e w'=>e=.returned (.int .i64 (cmpI x.maker k))∧Below w.heap.size w w':=by
 have hlt:=World.block_lt_of_cell? w _ hf
 have eg:∀ args w,(callFunc 93 args).run Tryz.prog w=.ok (.enter 93 args) w:=enters_of Tryz.func93 (by kernel_rfl) rfl
 have hf2:(w.alloc (.cells #[.int .i64 x.maker,.int .i64 x.seq] 90)).cell? ⟨gf,0,none⟩=some (.func (.func 93) #[] #[]):=(World.cell?_alloc_lt w _ _ hlt).trans hf
 have HO:=Jh (makerOf_calls x)
 have HC:=Jh (cmpI_calls x.maker k)
 have HB:=Jh ((Below.refl w.heap.size w).alloc (Nat.le_refl _) (.cells #[.int .i64 x.maker,.int .i64 x.seq] 90))
 go_enter Tryz.func128,Tryz.ntmps128
 go_wp2_with fail
 refine (HO.out _).mono ?_
 rintro e w' ⟨rfl,hb'⟩
 go_wp2_with fail
 refine (HC.out _).mono ?_
 rintro e w2 ⟨rfl,rfl⟩
 go_wp2
 go_ret
 exact ⟨rfl,HB.out.trans (hb'.mono (by simp))⟩
theorem put1O_calls (x:Ow) (k:Int) (w:World) {gf:Nat} (hf:w.cell? ⟨gf,0,none⟩=some (.func (.func 96) #[] #[])):Calls Tryz.prog 132 #[owV x,.int .i64 k,.pointer (some ⟨gf,0,none⟩)] w fun e w'=>e=.returned (.int .i64 (cmpI x.agent k))∧Below w.heap.size w w':=by
 have hlt:=World.block_lt_of_cell? w _ hf
 have eg:∀ args w,(callFunc 96 args).run Tryz.prog w=.ok (.enter 96 args) w:=enters_of Tryz.func96 (by kernel_rfl) rfl
 have hf2:(w.alloc (.cells #[.int .i64 x.agent,.int .i64 x.life,.int .i64 x.count] 26)).cell? ⟨gf,0,none⟩=some (.func (.func 96) #[] #[]):=(World.cell?_alloc_lt w _ _ hlt).trans hf
 have HO:=Jh (agentOf_calls x)
 have HC:=Jh (cmpI_calls x.agent k)
 have HB:=Jh ((Below.refl w.heap.size w).alloc (Nat.le_refl _) (.cells #[.int .i64 x.agent,.int .i64 x.life,.int .i64 x.count] 26))
 go_enter Tryz.func132,Tryz.ntmps132
 go_wp2_with fail
 refine (HO.out _).mono ?_
 rintro e w' ⟨rfl,hb'⟩
 go_wp2_with fail
 refine (HC.out _).mono ?_
 rintro e w2 ⟨rfl,rfl⟩
 go_wp2
 go_ret
 exact ⟨rfl,HB.out.trans (hb'.mono (by simp))⟩
set_option maxRecDepth 100000 in
set_option maxHeartbeats 3200000 in
theorem putM_calls (w:World) {base c:Nat} {A:Option Addr} {l:List Mk} {x:Mk} (ho:w.ownsRow base 90 2 (.slice A l.length c) l.length (l.flatMap Mk.cs)) (hs:Srt Mk.maker l) (hn:l.length≤1000000) (hB:base≤w.heap.size) :
  Calls Tryz.prog 106 #[.slice A l.length c,mkV x,.func (.func 93) #[] #[]] w (RetPut w base 2 90 (.slice A l.length c) (putL Mk.maker x l).length ((putL Mk.maker x l).flatMap Mk.cs)):=by
 have HO:=Jh ho
 have HSrt:=Jh hs
 have eg:∀ args w,(callFunc 93 args).run Tryz.prog w=.ok (.enter 93 args) w:=enters_of Tryz.func93 (by kernel_rfl) rfl
 have HOC:=Jh (makerOf_calls x)
 clear ho hs
 have hB0:Below w.heap.size w ((w.alloc (.cells #[.int .i64 x.maker,.int .i64 x.seq] 90)).alloc (.cells #[.func (.func 93) #[] #[]] 153)):=((Below.refl w.heap.size w).alloc (Nat.le_refl _) _).alloc (by simp) _
 have hbx:Blk ((w.alloc (.cells #[.int .i64 x.maker,.int .i64 x.seq] 90)).alloc (.cells #[.func (.func 93) #[] #[]] 153)) w.heap.size 90 #[.int .i64 x.maker,.int .i64 x.seq]:=(Blk.new w 90 #[.int .i64 x.maker,.int .i64 x.seq]).alloc _
 have hbf:Blk ((w.alloc (.cells #[.int .i64 x.maker,.int .i64 x.seq] 90)).alloc (.cells #[.func (.func 93) #[] #[]] 153)) (w.heap.size+1) 153 #[.func (.func 93) #[] #[]]:=by
  have:=Blk.new (w.alloc (.cells #[.int .i64 x.maker,.int .i64 x.seq] 90)) 153 #[.func (.func 93) #[] #[]]
  rw [World.size_alloc] at this
  exact this
 have hsz0:((w.alloc (.cells #[.int .i64 x.maker,.int .i64 x.seq] 90)).alloc (.cells #[.func (.func 93) #[] #[]] 153)).heap.size=w.heap.size+2:=by simp
 have HB0:=Jh hB0
 have HBX:=Jh hbx
 have HBF:=Jh hbf
 have HSZ:=Jh hsz0
 clear hB0 hbx hbf hsz0
 go_enter Tryz.func106,Tryz.ntmps106
 go_wp2_with fail
 generalize (w.alloc (.cells #[.int .i64 x.maker,.int .i64 x.seq] 90)).alloc (.cells #[.func (.func 93) #[] #[]] 153)=wm at *
 refine (HOC.out _).mono ?_
 rintro e w1 ⟨rfl,hb1⟩
 rw [HSZ.out] at hb1
 have HB1:=Jh hb1
 have HW1:=Jh (HB0.out.trans (hb1.mono (by omega)))
 have HO1:=Jh (own_below HO.out HW1.out)
 have HF1:=Jh (HBF.out.below hb1 (by omega))
 have HX1:=Jh (HBX.out.below hb1 (by omega))
 have HSC:Hid (Calls Tryz.prog 127 #[.slice A l.length c,.int .i64 x.maker,.func (.func 128) #[] #[.pointer (some ⟨w.heap.size+1,0,none⟩)]] w1 fun e w'=>e=.returned (.tuple #[.int .i64 (posL Mk.maker x.maker l:Nat),.bool (thereL Mk.maker x.maker l)])∧Below w1.heap.size w1 w'):=Jh (searchM_calls w1 ⟨enters_of Tryz.func128 (by kernel_rfl) rfl,fun y W hW=>put1M_calls y x.maker W ((HF1.out.below hW HF1.out.lt).cell 0)⟩ (Reads.of_own HO1.out) (Nat.le_refl _) (by omega) HSrt.out)
 have hsz1:w.heap.size+2≤w1.heap.size:=by have:=hb1.size;rw [HSZ.out] at this;exact this
 clear hb1 HBF HBX HB1 HB0 HO HSZ HOC
 go_wp2_with fail
 refine HSC.out.mono ?_
 rintro e w2 ⟨rfl,hb2⟩
 have HO2:=Jh (own_below HO1.out hb2)
 have HX2:=Jh (HX1.out.below hb2 HX1.out.lt)
 have HW2:=Jh (HW1.out.trans (hb2.mono (by omega)))
 have hsz2:=hb2.size
 obtain ⟨p0,p1⟩:w2.cell? ⟨w.heap.size,0,none⟩=some (.int .i64 x.maker)∧w2.cell? ⟨w.heap.size,1,none⟩=some (.int .i64 x.seq):=⟨HX2.out.cell 0,HX2.out.cell 1⟩
 have HPA:=Jh (putL_at (k:=Mk.maker) x l)
 have hpl:=posL_le (k:=Mk.maker) x.maker l
 have HQ:Hid (thereL Mk.maker x.maker l=true→posL Mk.maker x.maker l<l.length):=Jh fun h=>by unfold thereL at h;rw [Bool.and_eq_true,decide_eq_true_eq] at h;exact h.1
 clear hb2 HX1 HO1 HF1 HW1 HSC HSrt HX2
 have HG:=Jh (putL_len (k:=Mk.maker) x l)
 generalize putL Mk.maker x l=L at *
 generalize hii:posL Mk.maker x.maker l=i at *
 clear hii
 generalize thereL Mk.maker x.maker l=b at *
 cases b with
 | true =>
  have hi:=HQ.out rfl
  obtain ⟨g,rfl,ho,hOn,hfz,hcl⟩:=own_over mcs_len HO2.out hi x
  have HE:Hid (L=l.set i x):=Jh (HPA.out.trans (if_pos rfl))
  have HF2:Hid (RetPut w base 2 90 (.slice (some ⟨g,0,none⟩) l.length c) L.length (L.flatMap Mk.cs) (.returned (.slice (some ⟨g,0,none⟩) l.length c)) (w2.setCells g (i*2) (Mk.cs x))):=Jh (by
   rw [HE.out,List.length_set]
   exact ⟨_,_,rfl,ho,(Only.of_below HW2.out).trans hOn,.inl rfl⟩)
  have i0:(0:Int)≤(i:Int):=by omega
  have i9:(i:Int)<(l.length:Int):=by omega
  have f0:=hfz (i*2)
  have f1:=hfz (i*2+1)
  have f2:=hfz (i*2+2)
  obtain ⟨v0,c0⟩:=Option.isSome_iff_exists.1 (hcl (i*2) (by omega))
  obtain ⟨v1,c1⟩:=Option.isSome_iff_exists.1 (hcl (i*2+1) (by omega))
  have c2:2=2∨∃ v2,w2.cell? ⟨g,i*2+2,none⟩=some v2:=by first|exact .inl rfl|exact .inr (Option.isSome_iff_exists.1 (hcl (i*2+2) (by omega)))
  obtain ⟨v2,c2⟩:∃ v2,2=2∨w2.cell? ⟨g,i*2+2,none⟩=some v2:=by
   rcases c2 with h|⟨v,h⟩
   ·exact ⟨undef,.inl h⟩
   ·exact ⟨v,.inr h⟩
  have c3:=c2.resolve_left
  (try replace c3:=c3 (by decide))
  clear c2
  clear hfz hcl ho hOn HPA HQ HG HE HO2
  go_wp2
  go_ret
  exact HF2.out
 | false =>
  have HE:Hid (L=l.take i++[x]++l.drop i):=Jh (HPA.out.trans (if_neg (by decide)))
  have hl1:L.length=l.length+1:=by rw [HE.out,List.length_append,List.length_append,List.length_take,List.length_drop,List.length_singleton];omega
  have HL1:=Jh hl1
  clear hl1
  have HOw:Hid ((Value.slice A l.length c).ownBlock≠some w2.heap.size):=Jh fun e=>by
   rcases HO2.out.2 with ⟨hv,_⟩|⟨g,cap,cur,hv,_,hg,_⟩
   ·rw [hv] at e;cases e
   ·rw [hv] at e
    injection e with e
    have:=Blk.lt (show Blk w2 g _ cur from hg)
    have e':g=w2.heap.size:=e
    omega
  have HIn:Hid (Calls Tryz.prog 130 #[.slice A l.length c,.int .i64 (i:Int),.slice (some ⟨w2.heap.size,0,none⟩) 1 1] (w2.alloc (.cells #[.int .i64 x.maker,.int .i64 x.seq] 90)) (RetIns (w2.alloc (.cells #[.int .i64 x.maker,.int .i64 x.seq] 90)) base l.length 2 90 A c ((l.flatMap Mk.cs).take (i*2)++Mk.cs x++(l.flatMap Mk.cs).drop (i*2)))) :=
   Jh (insM_calls (w2.alloc (.cells #[.int .i64 x.maker,.int .i64 x.seq] 90)) (HO2.out.alloc _) (Blk.new w2 90 #[.int .i64 x.maker,.int .i64 x.seq]) HOw.out (mcs_len x) (mcs_one l) (fun v hv=>mcs_one [x] v (by simpa using hv)) hn (by simp;omega) hpl)
  clear HOw HO2 HPA HQ HG
  go_wp2_with fail
  refine HIn.out.mono ?_
  rintro e w3 ⟨A',c',rfl,hown,hgr,hob⟩
  rw [flat_ins mcs_len,← HE.out] at hown
  have HFin:Hid (RetPut w base 2 90 (.slice A l.length c) L.length (L.flatMap Mk.cs) (.returned (.slice A' (l.length+1) c')) w3):=Jh (by
   rw [HL1.out]
   refine ⟨A',c',rfl,hown,World.grownBy.trans (below_grown ((HW2.out.alloc (by omega) _)) _) hgr,?_⟩
   rcases hob with h|h
   ·exact .inl h
   ·exact .inr ⟨_,h,by simp;omega⟩)
  clear hown hgr hob HIn HE HL1
  go_wp2
  go_ret
  exact HFin.out
set_option maxRecDepth 100000 in
set_option maxHeartbeats 3200000 in
theorem putO_calls (w:World) {base c:Nat} {A:Option Addr} {l:List Ow} {x:Ow} (ho:w.ownsRow base 26 3 (.slice A l.length c) l.length (l.flatMap Ow.cs)) (hs:Srt Ow.agent l) (hn:l.length≤1000000) (hB:base≤w.heap.size) :
  Calls Tryz.prog 107 #[.slice A l.length c,owV x,.func (.func 96) #[] #[]] w (RetPut w base 3 26 (.slice A l.length c) (putL Ow.agent x l).length ((putL Ow.agent x l).flatMap Ow.cs)):=by
 have HO:=Jh ho
 have HSrt:=Jh hs
 have eg:∀ args w,(callFunc 96 args).run Tryz.prog w=.ok (.enter 96 args) w:=enters_of Tryz.func96 (by kernel_rfl) rfl
 have HOC:=Jh (agentOf_calls x)
 clear ho hs
 have hB0:Below w.heap.size w ((w.alloc (.cells #[.int .i64 x.agent,.int .i64 x.life,.int .i64 x.count] 26)).alloc (.cells #[.func (.func 96) #[] #[]] 155)):=((Below.refl w.heap.size w).alloc (Nat.le_refl _) _).alloc (by simp) _
 have hbx:Blk ((w.alloc (.cells #[.int .i64 x.agent,.int .i64 x.life,.int .i64 x.count] 26)).alloc (.cells #[.func (.func 96) #[] #[]] 155)) w.heap.size 26 #[.int .i64 x.agent,.int .i64 x.life,.int .i64 x.count]:=(Blk.new w 26 #[.int .i64 x.agent,.int .i64 x.life,.int .i64 x.count]).alloc _
 have hbf:Blk ((w.alloc (.cells #[.int .i64 x.agent,.int .i64 x.life,.int .i64 x.count] 26)).alloc (.cells #[.func (.func 96) #[] #[]] 155)) (w.heap.size+1) 155 #[.func (.func 96) #[] #[]]:=by
  have:=Blk.new (w.alloc (.cells #[.int .i64 x.agent,.int .i64 x.life,.int .i64 x.count] 26)) 155 #[.func (.func 96) #[] #[]]
  rw [World.size_alloc] at this
  exact this
 have hsz0:((w.alloc (.cells #[.int .i64 x.agent,.int .i64 x.life,.int .i64 x.count] 26)).alloc (.cells #[.func (.func 96) #[] #[]] 155)).heap.size=w.heap.size+2:=by simp
 have HB0:=Jh hB0
 have HBX:=Jh hbx
 have HBF:=Jh hbf
 have HSZ:=Jh hsz0
 clear hB0 hbx hbf hsz0
 go_enter Tryz.func107,Tryz.ntmps107
 go_wp2_with fail
 generalize (w.alloc (.cells #[.int .i64 x.agent,.int .i64 x.life,.int .i64 x.count] 26)).alloc (.cells #[.func (.func 96) #[] #[]] 155)=wm at *
 refine (HOC.out _).mono ?_
 rintro e w1 ⟨rfl,hb1⟩
 rw [HSZ.out] at hb1
 have HB1:=Jh hb1
 have HW1:=Jh (HB0.out.trans (hb1.mono (by omega)))
 have HO1:=Jh (own_below HO.out HW1.out)
 have HF1:=Jh (HBF.out.below hb1 (by omega))
 have HX1:=Jh (HBX.out.below hb1 (by omega))
 have HSC:Hid (Calls Tryz.prog 131 #[.slice A l.length c,.int .i64 x.agent,.func (.func 132) #[] #[.pointer (some ⟨w.heap.size+1,0,none⟩)]] w1 fun e w'=>e=.returned (.tuple #[.int .i64 (posL Ow.agent x.agent l:Nat),.bool (thereL Ow.agent x.agent l)])∧Below w1.heap.size w1 w'):=Jh (searchO_calls w1 ⟨enters_of Tryz.func132 (by kernel_rfl) rfl,fun y W hW=>put1O_calls y x.agent W ((HF1.out.below hW HF1.out.lt).cell 0)⟩ (Reads.of_own HO1.out) (Nat.le_refl _) (by omega) HSrt.out)
 have hsz1:w.heap.size+2≤w1.heap.size:=by have:=hb1.size;rw [HSZ.out] at this;exact this
 clear hb1 HBF HBX HB1 HB0 HO HSZ HOC
 go_wp2_with fail
 refine HSC.out.mono ?_
 rintro e w2 ⟨rfl,hb2⟩
 have HO2:=Jh (own_below HO1.out hb2)
 have HX2:=Jh (HX1.out.below hb2 HX1.out.lt)
 have HW2:=Jh (HW1.out.trans (hb2.mono (by omega)))
 have hsz2:=hb2.size
 obtain ⟨p0,p1,p2⟩:w2.cell? ⟨w.heap.size,0,none⟩=some (.int .i64 x.agent)∧w2.cell? ⟨w.heap.size,1,none⟩=some (.int .i64 x.life)∧w2.cell? ⟨w.heap.size,2,none⟩=some (.int .i64 x.count):=⟨HX2.out.cell 0,HX2.out.cell 1,HX2.out.cell 2⟩
 have HPA:=Jh (putL_at (k:=Ow.agent) x l)
 have hpl:=posL_le (k:=Ow.agent) x.agent l
 have HQ:Hid (thereL Ow.agent x.agent l=true→posL Ow.agent x.agent l<l.length):=Jh fun h=>by unfold thereL at h;rw [Bool.and_eq_true,decide_eq_true_eq] at h;exact h.1
 clear hb2 HX1 HO1 HF1 HW1 HSC HSrt HX2
 have HG:=Jh (putL_len (k:=Ow.agent) x l)
 generalize putL Ow.agent x l=L at *
 generalize hii:posL Ow.agent x.agent l=i at *
 clear hii
 generalize thereL Ow.agent x.agent l=b at *
 cases b with
 | true =>
  have hi:=HQ.out rfl
  obtain ⟨g,rfl,ho,hOn,hfz,hcl⟩:=own_over ocs_len HO2.out hi x
  have HE:Hid (L=l.set i x):=Jh (HPA.out.trans (if_pos rfl))
  have HF2:Hid (RetPut w base 3 26 (.slice (some ⟨g,0,none⟩) l.length c) L.length (L.flatMap Ow.cs) (.returned (.slice (some ⟨g,0,none⟩) l.length c)) (w2.setCells g (i*3) (Ow.cs x))):=Jh (by
   rw [HE.out,List.length_set]
   exact ⟨_,_,rfl,ho,(Only.of_below HW2.out).trans hOn,.inl rfl⟩)
  have i0:(0:Int)≤(i:Int):=by omega
  have i9:(i:Int)<(l.length:Int):=by omega
  have f0:=hfz (i*3)
  have f1:=hfz (i*3+1)
  have f2:=hfz (i*3+2)
  obtain ⟨v0,c0⟩:=Option.isSome_iff_exists.1 (hcl (i*3) (by omega))
  obtain ⟨v1,c1⟩:=Option.isSome_iff_exists.1 (hcl (i*3+1) (by omega))
  have c2:3=2∨∃ v2,w2.cell? ⟨g,i*3+2,none⟩=some v2:=by first|exact .inl rfl|exact .inr (Option.isSome_iff_exists.1 (hcl (i*3+2) (by omega)))
  obtain ⟨v2,c2⟩:∃ v2,3=2∨w2.cell? ⟨g,i*3+2,none⟩=some v2:=by
   rcases c2 with h|⟨v,h⟩
   ·exact ⟨undef,.inl h⟩
   ·exact ⟨v,.inr h⟩
  have c3:=c2.resolve_left
  (try replace c3:=c3 (by decide))
  clear c2
  clear hfz hcl ho hOn HPA HQ HG HE HO2
  go_wp2
  go_ret
  exact HF2.out
 | false =>
  have HE:Hid (L=l.take i++[x]++l.drop i):=Jh (HPA.out.trans (if_neg (by decide)))
  have hl1:L.length=l.length+1:=by rw [HE.out,List.length_append,List.length_append,List.length_take,List.length_drop,List.length_singleton];omega
  have HL1:=Jh hl1
  clear hl1
  have HOw:Hid ((Value.slice A l.length c).ownBlock≠some w2.heap.size):=Jh fun e=>by
   rcases HO2.out.2 with ⟨hv,_⟩|⟨g,cap,cur,hv,_,hg,_⟩
   ·rw [hv] at e;cases e
   ·rw [hv] at e
    injection e with e
    have:=Blk.lt (show Blk w2 g _ cur from hg)
    have e':g=w2.heap.size:=e
    omega
  have HIn:Hid (Calls Tryz.prog 133 #[.slice A l.length c,.int .i64 (i:Int),.slice (some ⟨w2.heap.size,0,none⟩) 1 1] (w2.alloc (.cells #[.int .i64 x.agent,.int .i64 x.life,.int .i64 x.count] 26)) (RetIns (w2.alloc (.cells #[.int .i64 x.agent,.int .i64 x.life,.int .i64 x.count] 26)) base l.length 3 26 A c ((l.flatMap Ow.cs).take (i*3)++Ow.cs x++(l.flatMap Ow.cs).drop (i*3)))) :=
   Jh (insO_calls (w2.alloc (.cells #[.int .i64 x.agent,.int .i64 x.life,.int .i64 x.count] 26)) (HO2.out.alloc _) (Blk.new w2 26 #[.int .i64 x.agent,.int .i64 x.life,.int .i64 x.count]) HOw.out (ocs_len x) (ocs_one l) (fun v hv=>ocs_one [x] v (by simpa using hv)) hn (by simp;omega) hpl)
  clear HOw HO2 HPA HQ HG
  go_wp2_with fail
  refine HIn.out.mono ?_
  rintro e w3 ⟨A',c',rfl,hown,hgr,hob⟩
  rw [flat_ins ocs_len,← HE.out] at hown
  have HFin:Hid (RetPut w base 3 26 (.slice A l.length c) L.length (L.flatMap Ow.cs) (.returned (.slice A' (l.length+1) c')) w3):=Jh (by
   rw [HL1.out]
   refine ⟨A',c',rfl,hown,World.grownBy.trans (below_grown ((HW2.out.alloc (by omega) _)) _) hgr,?_⟩
   rcases hob with h|h
   ·exact .inl h
   ·exact .inr ⟨_,h,by simp;omega⟩)
  clear hown hgr hob HIn HE HL1
  go_wp2
  go_ret
  exact HFin.out
theorem Tryz.infoEn:(Tryz.prog.info? 85).map (fun i=>(i.zero,i.size,i.bytes))=some (some (.agg #[.string ⟨#[]⟩,.int .i64 0,.string ⟨#[]⟩,.int .i64 0,.int .i64 0,.int .i64 0,.int .i64 0,.int .u32 0,.int .i64 0]),9,88):=by kernel_rfl
set_option maxRecDepth 100000 in
theorem cloneM_calls (w:World) {B c:Nat} {A:Option Addr} {l:List Mk} (h:Reads w B 2 A l.length (l.flatMap Mk.cs)) (hB:B≤w.heap.size) (hn:l.length≤1099511627776) :
  Calls Tryz.prog 29 #[.slice A l.length c] w fun e w'=>∃ A' c',e=.returned (.slice A' l.length c')∧w'.ownsRow w.heap.size 90 2 (.slice A' l.length c') l.length (l.flatMap Mk.cs)∧Below w.heap.size w w':=by
 have hq:=fun W=>Lib.run_eql_slice_nil (P:=Tryz.prog) W 24 90 A l.length c 0 0 Tryz.underlying24
 rcases A with _|ad
 ·have hl:l=[]:=by
   rcases Nat.eq_zero_or_pos l.length with h0|h0
   ·exact List.eq_nil_of_length_eq_zero h0
   ·obtain ⟨b,off,e,_⟩:=h.2 h0
    cases e
  have HL:=Jh hl
  clear hl
  have hq2:∀ W,(binOp .eql 24 (.slice none l.length c) (.slice none 0 0)).run Tryz.prog W=.ok (.bool true) W:=fun W=>by rw [hq];rfl
  clear hq
  go_enter Tryz.func29,Tryz.ntmps29
  go_wp2
  go_ret
  exact ⟨none,0,by rw [HL.out];rfl,by rw [HL.out];exact World.ownsRow_nil _ _ _ _,Below.refl _ _⟩
 ·have hq2:∀ W,(binOp .eql 24 (.slice (some ad) l.length c) (.slice none 0 0)).run Tryz.prog W=.ok (.bool false) W:=fun W=>by rw [hq];rfl
  clear hq
  go_enter Tryz.func29,Tryz.ntmps29
  go_wp2_with (at_builtin;go_must (refine wpList_append_sl _ rfl (.tmp 5) (.tmp 6) _ rfl w.heap.size 90 _ 2 16 Tryz.underlying24 Tryz.infoMk rfl (by omega) _ _ _ rfl (World.ownsRow_made w #[] 0 (Nat.le_refl _) (Nat.zero_le _) rfl) B (some ad) l.length c (l.flatMap Mk.cs) rfl (Reads.to h ((Below.refl B w).alloc hB _) (Nat.le_refl _)) (mcs_one l) (by unfold maxLen;omega) (by omega) (by simp) ?_))
  intro A' c' w1 hc1 hc2 hrd hbel hown _ _
  have hown2:w1.ownsRow w.heap.size 90 2 (.slice A' l.length c') l.length (l.flatMap Mk.cs):=by simpa using hown
  go_wp2
  go_ret
  exact ⟨A',c',by simp,hown2,((Below.refl _ _).alloc (Nat.le_refl _) _).trans hbel⟩
set_option maxRecDepth 100000 in
theorem cloneO_calls (w:World) {B c:Nat} {A:Option Addr} {l:List Ow} (h:Reads w B 3 A l.length (l.flatMap Ow.cs)) (hB:B≤w.heap.size) (hn:l.length≤1099511627776) :
  Calls Tryz.prog 72 #[.slice A l.length c] w fun e w'=>∃ A' c',e=.returned (.slice A' l.length c')∧w'.ownsRow w.heap.size 26 3 (.slice A' l.length c') l.length (l.flatMap Ow.cs)∧Below w.heap.size w w':=by
 have hq:=fun W=>Lib.run_eql_slice_nil (P:=Tryz.prog) W 51 26 A l.length c 0 0 Tryz.underlying51
 rcases A with _|ad
 ·have hl:l=[]:=by
   rcases Nat.eq_zero_or_pos l.length with h0|h0
   ·exact List.eq_nil_of_length_eq_zero h0
   ·obtain ⟨b,off,e,_⟩:=h.2 h0
    cases e
  have HL:=Jh hl
  clear hl
  have hq2:∀ W,(binOp .eql 51 (.slice none l.length c) (.slice none 0 0)).run Tryz.prog W=.ok (.bool true) W:=fun W=>by rw [hq];rfl
  clear hq
  go_enter Tryz.func72,Tryz.ntmps72
  go_wp2
  go_ret
  exact ⟨none,0,by rw [HL.out];rfl,by rw [HL.out];exact World.ownsRow_nil _ _ _ _,Below.refl _ _⟩
 ·have hq2:∀ W,(binOp .eql 51 (.slice (some ad) l.length c) (.slice none 0 0)).run Tryz.prog W=.ok (.bool false) W:=fun W=>by rw [hq];rfl
  clear hq
  go_enter Tryz.func72,Tryz.ntmps72
  go_wp2_with (at_builtin;go_must (refine wpList_append_sl _ rfl (.tmp 5) (.tmp 6) _ rfl w.heap.size 26 _ 3 24 Tryz.underlying51 Tryz.infoOw rfl (by omega) _ _ _ rfl (World.ownsRow_made w #[] 0 (Nat.le_refl _) (Nat.zero_le _) rfl) B (some ad) l.length c (l.flatMap Ow.cs) rfl (Reads.to h ((Below.refl B w).alloc hB _) (Nat.le_refl _)) (ocs_one l) (by unfold maxLen;omega) (by omega) (by simp) ?_))
  intro A' c' w1 hc1 hc2 hrd hbel hown _ _
  have hown2:w1.ownsRow w.heap.size 26 3 (.slice A' l.length c') l.length (l.flatMap Ow.cs):=by simpa using hown
  go_wp2
  go_ret
  exact ⟨A',c',by simp,hown2,((Below.refl _ _).alloc (Nat.le_refl _) _).trans hbel⟩
theorem results_mf {P:Program} {fn:Func} {p u:Tmp} {ty:TypeId} (h:fn.results=#[.cell p ty,.tmp u]) (tmps:Array Value) (w:World) (g:Nat) (t:TypeId) (cs:Array Value) (d:TypeDesc) (q:Value)
  (hp:tmps.getD p undef=.pointer (some ⟨g,0,none⟩)) (hq:tmps.getD u undef=q) (hg:Blk w g t cs)
  (hu:P.underlying ty=some d) (hd:(match d with|.struct _|.array _ _=>true|_=>false)=true) (hi:(P.info? ty).map (·.size)=some cs.size) :
  (results fn tmps).run P w=.ok (.tuple #[.agg cs,q]) w:=by
 rw [results_cell_tmp h,hp,hq]
 have:(asAddr (.pointer (some ⟨g,0,none⟩))).run P w=.ok ⟨g,0,none⟩ w:=by simp [asAddr]
 rw [this,Result.andThen_ok,run_loadVar_row w g t ty cs (0,0) d hg hu hd hi,Result.andThen_ok]
def set6 (w:World) (g:Nat) (v0 v1 v2 v3 v4 v5:Value):World:=(((((w.setCell ⟨g,0,none⟩ v0).setCell ⟨g,1,none⟩ v1).setCell ⟨g,2,none⟩ v2).setCell ⟨g,3,none⟩ v3).setCell ⟨g,4,none⟩ v4).setCell ⟨g,5,none⟩ v5
theorem set6_blk {w:World} {g:Nat} {t:TypeId} {a0 a1 a2 a3 a4 a5:Value} (h:Blk w g t #[a0,a1,a2,a3,a4,a5]) (v0 v1 v2 v3 v4 v5:Value):Blk (set6 w g v0 v1 v2 v3 v4 v5) g t #[v0,v1,v2,v3,v4,v5]:=by
 have:=(((((h.set_ 0 v0).set_ 1 v1).set_ 2 v2).set_ 3 v3).set_ 4 v4).set_ 5 v5
 simpa [set6] using this
theorem set6_below {a w:World} {B g:Nat} (h:Below B a w) (hB:B≤g) (v0 v1 v2 v3 v4 v5:Value):Below B a (set6 w g v0 v1 v2 v3 v4 v5) :=
 (((((h.setCell (p:=⟨g,0,none⟩) hB v0).setCell (p:=⟨g,1,none⟩) hB v1).setCell (p:=⟨g,2,none⟩) hB v2).setCell (p:=⟨g,3,none⟩) hB v3).setCell (p:=⟨g,4,none⟩) hB v4).setCell (p:=⟨g,5,none⟩) hB v5
theorem set6_size (w:World) (g:Nat) (v0 v1 v2 v3 v4 v5:Value):(set6 w g v0 v1 v2 v3 v4 v5).heap.size=w.heap.size:=by simp [set6]
theorem set6_alloc {a w:World} {B g:Nat} (h:Below B a w) (hB:B≤g) (hs:B≤w.heap.size) (v0 v1 v2 v3 v4 v5:Value) (o:Obj):Below B a ((set6 w g v0 v1 v2 v3 v4 v5).alloc o) :=
 (set6_below h hB v0 v1 v2 v3 v4 v5).alloc (by rw [set6_size];exact hs) o
theorem set6_only {a w:World} {g:Nat} (h:Only g a w) (v0 v1 v2 v3 v4 v5:Value):Only g a (set6 w g v0 v1 v2 v3 v4 v5) :=
 (((((h.setCell (p:=⟨g,0,none⟩) (.inl rfl) v0).setCell (p:=⟨g,1,none⟩) (.inl rfl) v1).setCell (p:=⟨g,2,none⟩) (.inl rfl) v2).setCell (p:=⟨g,3,none⟩) (.inl rfl) v3).setCell (p:=⟨g,4,none⟩) (.inl rfl) v4).setCell (p:=⟨g,5,none⟩) (.inl rfl) v5
structure Mow (w:World) (base:Nat) (m:Md) (p:Pl):Prop where
 oe:w.ownsRow base 85 9 (.slice p.AE m.E.length p.cE) m.E.length (m.E.flatMap En.cs)
 om:w.ownsRow base 90 2 (.slice p.AM m.M.length p.cM) m.M.length (m.M.flatMap Mk.cs)
 oo:w.ownsRow base 26 3 (.slice p.AO m.O.length p.cO) m.O.length (m.O.flatMap Ow.cs)
theorem own_capn {w:World} {base n size:Nat} {e:TypeId} {A:Option Addr} {c:Nat} {xs:List Value} (h:w.ownsRow base e size (.slice A n c) n xs):n≤c:=by
 rcases own_form h with ⟨_,h0,_⟩|⟨_,_,h⟩
 ·omega
 ·exact h
theorem Mow.man {w:World} {base:Nat} {m:Md} {p:Pl} (h:Mow w base m p) (hE:m.E.length≤17592186044416) (hM:m.M.length≤17592186044416) (hO:m.O.length≤17592186044416) (hok:∀ x∈m.E,x.Ok):Man w w.heap.size m p :=
 ⟨Reads.of_own h.oe,Reads.of_own h.om,Reads.of_own h.oo,hE,hM,hO,own_capn h.oe,own_capn h.om,own_capn h.oo,hok⟩
theorem Mow.below {w w':World} {base:Nat} {m:Md} {p:Pl} (h:Mow w base m p) (hb:Below w.heap.size w w'):Mow w' base m p:=⟨own_below h.oe hb,own_below h.om hb,own_below h.oo hb⟩
theorem own_mono {w:World} {b1 b2:Nat} {e:TypeId} {size n:Nat} {v:Value} {xs:List Value} (h:w.ownsRow b1 e size v n xs) (hb:b2≤b1):w.ownsRow b2 e size v n xs:=by
 refine ⟨h.1,?_⟩
 rcases h.2 with h0|⟨g,cap,cur,hv,hbg,rest⟩
 ·exact .inl h0
 ·exact .inr ⟨g,cap,cur,hv,Nat.le_trans hb hbg,rest⟩
theorem Mow.mono {w:World} {b1 b2:Nat} {m:Md} {p:Pl} (h:Mow w b1 m p) (hb:b2≤b1):Mow w b2 m p:=⟨own_mono h.oe hb,own_mono h.om hb,own_mono h.oo hb⟩
def nilP:Pl:=⟨none,0,none,0,none,0⟩
theorem Mow.zero (w:World) (base:Nat):Mow w base zeroM nilP:=⟨World.ownsRow_nil _ _ _ _,World.ownsRow_nil _ _ _ _,World.ownsRow_nil _ _ _ _⟩
noncomputable def appM (m:Md) (d:Ed):Md:=if appE m d=0 then appl m d else zeroM
def RetAp (w:World) (M:Md) (err:Int) (e:Ending) (w':World):Prop:=∃ pz,e=.returned (.tuple #[mdV M pz,.int .i64 err])∧Mow w' w.heap.size M pz∧Below w.heap.size w w'
theorem ret_err {w w':World} {m:Md} {d:Ed} {n:Int} (h:appE m d=n) (hn:n≠0) (hb:Below w.heap.size w w'):RetAp w (appM m d) (appE m d) (.returned (.tuple #[.agg #[.int .i64 0,.int .i64 0,.int .i64 0,.slice none 0 0,.slice none 0 0,.slice none 0 0],.int .i64 n])) w':=by
 refine ⟨nilP,?_,?_,hb⟩
 ·rw [h];unfold appM;rw [h,if_neg hn];rfl
 ·unfold appM;rw [h,if_neg hn];exact Mow.zero _ _
theorem appE_ref {m:Md} {d:Ed} {n:Int} (h:refE m d=n) (hn:n≠0):appE m d=n:=by unfold appE;rw [if_pos (by rw [h];exact hn),h]
theorem num_le {l:List UInt8} {k e n k' e':Nat} {mo:Int} (h:Nu.curNum l k e mo=(n,k',e')) (h0:0≤mo):(n:Int)≤mo:=by
 unfold Nu.curNum at h
 split at h
 ·injection h with h _;omega
 ·split at h
  ·injection h with h _;omega
  ·split at h
   ·injection h with h _;omega
   ·rename_i h3
    rw [h] at h3
    have:n=((n,k',e'):Nat × Nat × Nat).1:=rfl
    omega
theorem text_le {l:List UInt8} {k e k' e':Nat} {s:List UInt8} {mo:Int} (h:Nu.curText l k e mo=(s,k',e')) (h0:0≤mo):(s.length:Int)≤mo:=by
 unfold Nu.curText at h
 split at h
 ·injection h with h _;subst h;simpa using h0
 ·split at h
  ·injection h with h _;subst h;simpa using h0
  ·split at h
   ·injection h with h _;subst h;simpa using h0
   ·split at h
    ·injection h with h _;subst h;simpa using h0
    ·rename_i h3 _
     injection h with h _
     subst h
     rw [List.length_take]
     omega
theorem rdL_len {α:Type} (f:Nat→Nat→α × Nat × Nat):∀ n k e,(rdL f n k e).1.length=n
 | 0,_,_=>rfl
 | n+1,k,e=>by
  have ih:=rdL_len f n k e
  rw [rdL]
  rcases h:rdL f n k e with ⟨xs,k1,e1⟩
  rw [h] at ih
  rcases h2:f k1 e1 with ⟨x,k2,e2⟩
  simp only [List.length_append,List.length_cons,List.length_nil] at *
  omega
theorem rdL_s {α:Type} {f:Nat→Nat→α × Nat × Nat} {n k e k1 e1 k2 e2:Nat} {xs:List α} {x:α} (h:rdL f n k e=(xs,k1,e1)) (h2:f k1 e1=(x,k2,e2)):rdL f (n+1) k e=(xs++[x],k2,e2):=by
 rw [rdL,h];dsimp only;rw [h2]
theorem rdL_all {α:Type} {f:Nat→Nat→α × Nat × Nat} {P:α→Prop} (hf:∀ k e,P (f k e).1):∀ n k e,∀ x∈(rdL f n k e).1,P x
 | 0,_,_=>fun x hx=>by cases hx
 | n+1,k,e=>by
  have ih:=rdL_all hf n k e
  intro x hx
  rw [rdL] at hx
  rcases h:rdL f n k e with ⟨xs,k1,e1⟩
  rw [h] at hx ih
  have h3:=hf k1 e1
  rcases h2:f k1 e1 with ⟨y,k2,e2⟩
  rw [h2] at h3
  simp only [h2,List.mem_append,List.mem_singleton] at hx
  rcases hx with hx|rfl
  ·exact ih x hx
  ·exact h3
def Rd (x:En):Prop:=x.Ok∧x.key.size≤40∧x.part.size≤1024
theorem rdE_ok (l:List UInt8) (k e:Nat):Rd (rdE l k e).1:=by
 unfold rdE
 rcases h1:Nu.curText l k e 40 with ⟨a,k1,e1⟩
 dsimp only
 rcases h2:Nu.curNum l k1 e1 most with ⟨n1,k2,e2⟩
 dsimp only
 rcases h3:Nu.curText l k2 e2 1024 with ⟨b,k3,e3⟩
 dsimp only
 rcases h4:Nu.curNum l k3 e3 most with ⟨n2,k4,e4⟩
 dsimp only
 rcases h5:Nu.curNum l k4 e4 most with ⟨n3,k5,e5⟩
 dsimp only
 rcases h6:Nu.curNum l k5 e5 most with ⟨n4,k6,e6⟩
 dsimp only
 rcases h7:Nu.curNum l k6 e6 most with ⟨n5,k7,e7⟩
 dsimp only
 rcases h8:Nu.curNum l k7 e7 4294967295 with ⟨n6,k8,e8⟩
 dsimp only
 rcases h9:Nu.curNum l k8 e8 most with ⟨n7,k9,e9⟩
 dsimp only
 have t1:=text_le h1 (by omega)
 have t3:=text_le h3 (by omega)
 have t8:=num_le h8 (by omega)
 have s1:(⟨a.toArray⟩:ByteArray).size=a.length:=by simp [ByteArray.size]
 have s3:(⟨b.toArray⟩:ByteArray).size=b.length:=by simp [ByteArray.size]
 exact ⟨⟨by rw [s1];omega,by rw [s3];omega,Int.natCast_nonneg _,t8⟩,by rw [s1];omega,by rw [s3];omega⟩
noncomputable def decM (hd:List UInt8) (t:List UInt8) (k e:Nat) (m:Md):Md × Int:=open Classical in if hd=head5∧Nu.curEnd t k e=0∧rightB m=true then (m,0) else (nilM,4)
theorem decT_eq {t hd:List UInt8} {k e k' e':Nat} {m:Md} (h1:Nu.curBytes t 0 0 5=(hd,k,e)) (h2:rdM t k e=(m,k',e')):decT t=decM hd t k' e' m:=by
 unfold decT decM;rw [h1];dsimp only;rw [h2]
theorem decT_bad {t hd:List UInt8} {k e:Nat} (h1:Nu.curBytes t 0 0 5=(hd,k,e)) (h2:hd≠head5):decT t=(nilM,4):=by
 unfold decT;rw [h1];dsimp only
 rcases h3:rdM t k e with ⟨m,k',e'⟩
 dsimp only
 rw [if_neg (fun h=>h2 h.1)]
theorem decB_err {b t:List UInt8} {e:Nat} (h:Cr.copen b=(t,e)) (he:e≠0):decB b=(nilM,(e:Int)):=by unfold decB;rw [h,if_pos he]
theorem decB_ok {b t:List UInt8} (h:Cr.copen b=(t,0)):decB b=decT t:=by unfold decB;rw [h,if_neg (by simp)]
theorem copen_le {b t:List UInt8} {e:Nat} (h:Cr.copen b=(t,e)):t.length≤b.length:=by
 unfold Cr.copen at h
 split at h
 ·injection h with h _;subst h;simp
 ·split at h
  ·injection h with h _;subst h;rw [List.length_take];omega
  ·injection h with h _;subst h;simp
theorem rdM_good (l:List UInt8) (k e:Nat):(rdM l k e).1.E.length≤256∧(rdM l k e).1.M.length≤64∧(rdM l k e).1.O.length≤8∧∀ x∈(rdM l k e).1.E,Rd x:=by
 unfold rdM
 rcases Nu.curNum l k e most with ⟨g,k1,e1⟩
 dsimp only
 rcases Nu.curNum l k1 e1 most with ⟨c,k2,e2⟩
 dsimp only
 rcases Nu.curNum l k2 e2 most with ⟨f,k3,e3⟩
 dsimp only
 rcases h4:Nu.curNum l k3 e3 256 with ⟨nE,k4,e4⟩
 dsimp only
 rcases h5:rdL (rdE l) nE k4 e4 with ⟨E,k5,e5⟩
 dsimp only
 rcases h6:Nu.curNum l k5 e5 64 with ⟨nM,k6,e6⟩
 dsimp only
 rcases h7:rdL (rdK l) nM k6 e6 with ⟨M,k7,e7⟩
 dsimp only
 rcases h8:Nu.curNum l k7 e7 8 with ⟨nO,k8,e8⟩
 dsimp only
 rcases h9:rdL (rdO l) nO k8 e8 with ⟨O,k9,e9⟩
 dsimp only
 have l5:=rdL_len (rdE l) nE k4 e4
 have l7:=rdL_len (rdK l) nM k6 e6
 have l9:=rdL_len (rdO l) nO k8 e8
 have a5:=rdL_all (P:=Rd) (f:=rdE l) (rdE_ok l) nE k4 e4
 rw [h5] at l5 a5
 rw [h7] at l7
 rw [h9] at l9
 dsimp only at l5 l7 l9
 have n4:=num_le h4 (by omega)
 have n6:=num_le h6 (by omega)
 have n8:=num_le h8 (by omega)
 exact ⟨by omega,by omega,by omega,a5⟩
theorem dec_good (b:List UInt8):(decB b).1.E.length≤256∧(decB b).1.M.length≤64∧(decB b).1.O.length≤8∧∀ x∈(decB b).1.E,x.Ok:=by
 have hz:(nilM.E.length≤256)∧(nilM.M.length≤64)∧(nilM.O.length≤8)∧∀ x∈nilM.E,x.Ok:=⟨by decide,by decide,by decide,fun x hx=>by cases hx⟩
 unfold decB
 split
 ·exact hz
 ·unfold decT
  rcases Nu.curBytes (Cr.copen b).1 0 0 5 with ⟨hd,k,e⟩
  dsimp only
  have hg:=rdM_good (Cr.copen b).1 k e
  rcases h:rdM (Cr.copen b).1 k e with ⟨m,k',e'⟩
  rw [h] at hg
  dsimp only at hg ⊢
  split
  ·exact ⟨hg.1,hg.2.1,hg.2.2.1,fun x hx=>(hg.2.2.2 x hx).1⟩
  ·exact hz
structure Fr2 (a b:Nat) (w w':World):Prop where
 os:w'.os=w.os
 tape:w'.tape=w.tape
 output:w'.output=w.output
 size:w.heap.size≤w'.heap.size
 block:∀ k,k<w.heap.size→k≠a→k≠b→w'.heap[k]?=w.heap[k]?
section
variable {a b:Nat} {w w' w'':World}
theorem Fr2.refl (a b:Nat) (w:World):Fr2 a b w w:=⟨rfl,rfl,rfl,Nat.le_refl _,fun _ _ _ _=>rfl⟩
theorem Fr2.trans (h:Fr2 a b w w') (h':Fr2 a b w' w''):Fr2 a b w w'':=⟨h'.os.trans h.os,h'.tape.trans h.tape,h'.output.trans h.output,Nat.le_trans h.size h'.size,fun k hk h1 h2=>(h'.block k (Nat.lt_of_lt_of_le hk h.size) h1 h2).trans (h.block k hk h1 h2)⟩
theorem Fr2.of_only (h:Only a w w'):Fr2 a b w w':=⟨h.os,h.tape,h.output,h.size,fun k hk h1 _=>h.block k hk (by intro e;injection e with e;exact h1 e)⟩
theorem Fr2.of_below (h:Below w.heap.size w w'):Fr2 a b w w':=⟨h.os,h.tape,h.output,h.size,fun k hk _ _=>h.block k hk⟩
theorem Fr2.alloc (h:Fr2 a b w w') (o:Obj):Fr2 a b w (w'.alloc o):=h.trans (Fr2.of_below ((Below.refl _ _).alloc (Nat.le_refl _) o))
theorem Fr2.setCell (h:Fr2 a b w w') {g:Nat} (hg:g=a∨g=b∨w.heap.size≤g) (i:Nat) (v:Value):Fr2 a b w (w'.setCell ⟨g,i,none⟩ v) :=
 ⟨h.os,h.tape,h.output,by have:=h.size;simpa using this,fun k hk h1 h2=>(Below.heap_setCell w' ⟨g,i,none⟩ v k (fun e=>by have e':k=g:=e;omega)).trans (h.block k hk h1 h2)⟩
theorem Fr2.grown (h:Fr2 a b w w') {row:Option Nat} (hg:w'.grownBy w'' row) (hr:∀ g,row=some g→w.heap.size≤g):Fr2 a b w w'' :=
 ⟨hg.os.trans h.os,hg.tape.trans h.tape,hg.output.trans h.output,Nat.le_trans h.size hg.size,fun k hk h1 h2=>(hg.block k (Nat.lt_of_lt_of_le hk h.size) (by intro e;have:=hr k e.symm;omega)).trans (h.block k hk h1 h2)⟩
theorem Fr2.below (h:Fr2 a b w w') {B:Nat} (ha:B≤a) (hb:B≤b) (hs:B≤w.heap.size):Below B w w':=⟨h.os,h.tape,h.output,h.size,fun k hk=>h.block k (by omega) (by omega) (by omega)⟩
theorem Fr2.blk {g:Nat} {t:TypeId} {cs:Array Value} (h:Fr2 a b w w') (hg:Blk w g t cs) (h1:g≠a) (h2:g≠b):Blk w' g t cs:=(h.block g hg.lt h1 h2).trans hg
theorem Fr2.own {base:Nat} {e:TypeId} {size n:Nat} {v:Value} {xs:List Value} (h:Fr2 a b w w') (ho:w.ownsRow base e size v n xs) (h1:a<base) (h2:b<base):w'.ownsRow base e size v n xs:=by
 refine ⟨ho.1,?_⟩
 rcases ho.2 with h3|⟨g,cap,cur,hv,hg,hh,rest⟩
 ·exact .inl h3
 ·exact .inr ⟨g,cap,cur,hv,hg,(h.block g (hlt hh) (by omega) (by omega)).trans hh,rest⟩
end
theorem Fr2.own2 {a b:Nat} {w w':World} {base:Nat} {e:TypeId} {size n:Nat} {v:Value} {xs:List Value} (h:Fr2 a b w w') (ho:w.ownsRow base e size v n xs) (h1:a<base) (h2:w.heap.size≤b):w'.ownsRow base e size v n xs:=by
 refine ⟨ho.1,?_⟩
 rcases ho.2 with h3|⟨g,cap,cur,hv,hg,hh,rest⟩
 ·exact .inl h3
 ·have:=hlt hh
  exact .inr ⟨g,cap,cur,hv,hg,(h.block g (hlt hh) (by omega) (by omega)).trans hh,rest⟩
theorem ecs1' (x:En):∀ u∈x.cs,u.oneCell'=true:=fun u hu=>ecs_one [x] u (by simpa using hu)
theorem mcs1' (x:Mk):∀ u∈x.cs,u.oneCell'=true:=fun u hu=>mcs_one [x] u (by simpa using hu)
theorem ocs1' (x:Ow):∀ u∈x.cs,u.oneCell'=true:=fun u hu=>ocs_one [x] u (by simpa using hu)
structure Dx (t T:TypeId) (w0:World) (gc gB gx:Nat) (l:List UInt8) (W:World) (k e:Nat) (vals:Array Value):Prop where
 cur:Nu.Cur t W gc gB l k e
 blk:Blk W gx T vals
 fr:Fr2 gc gx w0 W
section
variable {t T:TypeId} {w0 W W':World} {gc gB gx:Nat} {l:List UInt8} {k e k' e':Nat} {vals:Array Value}
theorem Dx.call (h:Dx t T w0 gc gB gx l W k e vals) (hc:Nu.Cur t W' gc gB l k' e') (ho:Only gc W W') (hne:gx≠gc):Dx t T w0 gc gB gx l W' k' e' vals :=
 ⟨hc,ho.blk h.blk hne,h.fr.trans (Fr2.of_only ho)⟩
theorem Dx.set (h:Dx t T w0 gc gB gx l W k e vals) (hne:gx≠gc) (hB:gB≤gx) (i:Nat) (v:Value):Dx t T w0 gc gB gx l (W.setCell ⟨gx,i,none⟩ v) k e (vals.setIfInBounds i v) :=
 ⟨h.cur.far ((Only.refl gx W).setCell (.inl rfl) v) (Ne.symm hne) hB,h.blk.set_ i v,h.fr.setCell (.inr (.inl rfl)) i v⟩
end
theorem Fr2.any {a b b':Nat} {w w':World} (h:Fr2 a b w w') (hb:w.heap.size≤b):Fr2 a b' w w':=⟨h.os,h.tape,h.output,h.size,fun k hk h1 _=>h.block k hk h1 (by omega)⟩
theorem cur_low {t:TypeId} {w w':World} {gc gB B:Nat} {l:List UInt8} {k e:Nat} (h:Nu.Cur t w gc gB l k e) (hb:Below B w w') (hB:gc<B):Nu.Cur t w' gc gB l k e:=by
 have hbd:=h.bd
 obtain ⟨A,c,hbk,hc,hm,⟨hby,hBg⟩,hk⟩:=h
 exact ⟨A,c,hbk.below hb hB,hc,hm,⟨hby.below (hb.mono (by omega)),hBg⟩,hk⟩
theorem own_keep {w w':World} {base B n size:Nat} {e:TypeId} {v:Value} {xs:List Value} {row:Option Nat} (h:w.ownsRow base e size v n xs) (hg:w.grownBy w' row) (hv:∀ g,v.ownBlock=some g→g<B) (hr:∀ g,row=some g→B≤g):w'.ownsRow base e size v n xs:=by
 refine h.kept hg ?_
 rcases hw:v.ownBlock with _|g
 ·exact .inl rfl
 ·right
  intro e
  have h1:=hv g hw
  have h2:=hr g e.symm
  omega
def KeptRow (base B:Nat) (e:TypeId) (size n:Nat) (v:Value) (xs:List Value) (W:World):Prop:=W.ownsRow base e size v n xs∧∀ g,v.ownBlock=some g→g<B
section
variable {base B size n:Nat} {e:TypeId} {v:Value} {xs:List Value} {W W':World}
theorem KeptRow.of (h:W.ownsRow base e size v n xs):KeptRow base W.heap.size e size n v xs W:=⟨h,fun g hg=>(h.lt g hg).2⟩
theorem KeptRow.nil:KeptRow base B e size 0 (.slice none 0 0) [] W:=⟨World.ownsRow_nil _ _ _ _,fun g hg=>by cases hg⟩
theorem KeptRow.fr (h:KeptRow base B e size n v xs W) {a b:Nat} (hf:Fr2 a b W W') (h1:a<base) (h2:W.heap.size≤b):KeptRow base B e size n v xs W':=⟨hf.own2 h.1 h1 h2,h.2⟩
theorem KeptRow.grown (h:KeptRow base B e size n v xs W) {row:Option Nat} (hg:W.grownBy W' row) (hr:∀ g,row=some g→B≤g):KeptRow base B e size n v xs W':=⟨own_keep h.1 hg h.2 hr,h.2⟩
theorem KeptRow.alloc (h:KeptRow base B e size n v xs W) (o:Obj):KeptRow base B e size n v xs (W.alloc o):=⟨h.1.alloc o,h.2⟩
theorem KeptRow.set (h:KeptRow base B e size n v xs W) {g:Nat} (hg:g<base) (i:Nat) (u:Value):KeptRow base B e size n v xs (W.setCell ⟨g,i,none⟩ u):=⟨own_only h.1 ((Only.refl g W).setCell (.inl rfl) u) hg,h.2⟩
end
theorem Mow.mk3 {w:World} {base b1 b2 b3:Nat} {m:Md} {p:Pl} (h1:w.ownsRow b1 85 9 (.slice p.AE m.E.length p.cE) m.E.length (m.E.flatMap En.cs)) (h2:w.ownsRow b2 90 2 (.slice p.AM m.M.length p.cM) m.M.length (m.M.flatMap Mk.cs)) (h3:w.ownsRow b3 26 3 (.slice p.AO m.O.length p.cO) m.O.length (m.O.flatMap Ow.cs)) (k1:base≤b1) (k2:base≤b2) (k3:base≤b3):Mow w base m p :=
 ⟨own_mono h1 k1,own_mono h2 k2,own_mono h3 k3⟩
theorem Mow.set6 {w:World} {base g:Nat} {m:Md} {p:Pl} (h:Mow w base m p) (hg:g<base) (v0 v1 v2 v3 v4 v5:Value):Mow (set6 w g v0 v1 v2 v3 v4 v5) base m p :=
 ⟨own_only h.oe (set6_only (Only.refl g w) _ _ _ _ _ _) hg,own_only h.om (set6_only (Only.refl g w) _ _ _ _ _ _) hg,own_only h.oo (set6_only (Only.refl g w) _ _ _ _ _ _) hg⟩
theorem Mow.drewN {w:World} {base:Nat} {m:Md} {p:Pl} (h:Mow w base m p) (n:Nat):Mow (w.drewN n) base m p:=⟨own_drewN h.oe n,own_drewN h.om n,own_drewN h.oo n⟩
theorem rd_all {l:List UInt8} {n k e k' e':Nat} {xs:List En} (h:rdL (rdE l) n k e=(xs,k',e')):∀ x∈xs,Rd x:=by
 have:=rdL_all (P:=Rd) (f:=rdE l) (rdE_ok l) n k e
 rw [h] at this
 exact this
theorem cur_new {t:TypeId} {W:World} {A:Option Addr} {c:Nat} {l:List UInt8} (h:Bytes W W.heap.size A l.length l) (hc:l.length≤c) (hm:c≤maxLen):Nu.Cur t (W.alloc (.cells #[.slice A l.length c,.int .i64 0,.int .i64 0] t)) W.heap.size W.heap.size l 0 0 :=
 ⟨A,c,Blk.new _ _ _,hc,hm,⟨h.below ((Below.refl _ _).alloc (Nat.le_refl _) _),Nat.le_refl _⟩,Nat.zero_le _⟩
end Go.Proofs.YtibnehaibgbliaaGreat.Mf
