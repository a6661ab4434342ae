/- Laws for the row's walk. -/
import Derived.Test.YtibnehaibgbliaaGreatR14
set_option linter.unusedVariables false
set_option linter.unusedSimpArgs false
open Go.Lib renaming hid → Jh
namespace Go.Proofs.YtibnehaibgbliaaGreat.Mf
open Go.RowKit Go.Proofs.YtibnehaibgbliaaGreat
def d0:Ed:=⟨[],[],[⟨1,5⟩],0,0,⟨1,1,1⟩⟩
theorem appE_zero {m:Md} {d:Ed}:appE m d=0↔Fine m d∧(ents m d).length≤256:=by
 unfold appE
 constructor
 ·intro h
  by_cases h0:refE m d=0
  ·rw [if_neg (by rw [h0];decide)] at h
   refine ⟨refE_fine.1 h0,?_⟩
   by_cases h1:256<(ents m d).length
   ·rw [if_pos h1] at h;cases h
   ·omega
  ·rw [if_pos h0] at h
   exact absurd h h0
 ·rintro ⟨h,hl⟩
  rw [if_neg (by rw [refE_fine.2 h];decide),if_neg (by omega)]
theorem appM_ok {m:Md} {d:Ed} (h:appE m d=0):appM m d=appl m d:=if_pos h
theorem maxI_l (a b:Int):a≤maxI a b:=by unfold maxI;split<;>omega
theorem maxI_lt {a b c:Int} (h:a<c) (h':b<c):maxI a b<c:=by unfold maxI;split<;>omega
structure FineF (m:Md) (d:Ed):Prop where
 r:RightF m
 e:EditF d
 exi:∀ x∈d.add,∀ y∈m.E,y.key=x.key→y.key∈d.drop
 lost:∀ k∈d.drop,∃ x∈m.E,x.key=k
 fen:∀ x∈d.add,m.fence≤x.born∧d.fence≤x.born
 dup:∀ x∈d.marks,seqL x.maker m.M<x.seq
 ver:∀ x∈m.O,ver1 d x=false
 gen:m.gen≠1099511627775
theorem Fine.f {m:Md} {d:Ed} (h:Fine m d):FineF m d where
 r:=right_f h.right
 e:=edit_f h.edit
 exi:=fun x hx y hy e=>by
  have h1:=List.any_eq_false.1 h.exi x hx
  unfold exi1 at h1
  simp only [Bool.and_eq_true,hasK_iff,Bool.not_eq_true',not_and,Bool.not_eq_false] at h1
  rw [e]
  exact has_mem.1 (h1 ⟨y,hy,e⟩)
 lost:=fun k hk=>by
  have h1:=List.any_eq_false.1 h.lost k hk
  unfold lost1 at h1
  simp only [Bool.not_eq_true',Bool.not_eq_false] at h1
  exact hasK_iff.1 h1
 fen:=fun x hx=>by
  have h1:=List.any_eq_false.1 h.fen x hx
  unfold fen1 at h1
  simp only [Bool.or_eq_true,decide_eq_true_eq,not_or] at h1
  omega
 dup:=fun x hx=>by
  have h1:=List.any_eq_false.1 h.dup x hx
  unfold dup1 at h1
  simp only [decide_eq_true_eq] at h1
  omega
 ver:=fun x hx=>by
  have h1:=List.any_eq_false.1 h.ver x hx
  simpa using h1
 gen:=h.gen
theorem en_in {x:En} (h:enB x=true):x.key.size≤40∧1≤x.key.size:=by
 unfold enB keyB at h
 simp only [Bool.and_eq_true,decide_eq_true_eq] at h
 have h2:KeyP x.key:=h.1.1.1.1.1.1.1.1.1.2
 exact ⟨h2.2.1,h2.1⟩
theorem en_ok {x:En} (h:enB x=true):x.key.size≤maxLen:=Nat.le_trans (en_in h).1 (by unfold maxLen;omega)
theorem FineF.srt {m:Md} {d:Ed} (h:FineF m d):(ents m d).Pairwise fun a b=>ltE a b=true :=
 ents_srt h.r.srtE h.e.ndA (fun x hx y hy hk e=>hk (h.exi x hx y hy e)) (fun x hx=>en_ok (h.r.enE x hx)) (fun x hx=>en_ok (h.e.enA x hx))
theorem FineF.rises {m:Md} {d:Ed} (h:FineF m d):d.marks.Pairwise fun x y=>x.maker=y.maker→x.seq<y.seq:=by
 refine h.e.srtP.imp_of_mem fun {x y} hx hy hxy e=>?_
 rw [ltP_mk (h.e.mkA x hx) (h.e.mkA y hy)] at hxy
 simp only [Bool.or_eq_true,Bool.and_eq_true,decide_eq_true_eq] at hxy
 omega
theorem FineF.seq {m:Md} {d:Ed} (h:FineF m d) (k:Int):seqL k (mrks m d)=bestM k d.marks (seqL k m.M):=by
 unfold mrks
 rw [seq_putMs]
 exact last_best h.rises fun x hx e=>by rw [← e];exact h.dup x hx
theorem FineF.right {m:Md} {d:Ed} (h:FineF m d) (hl:(ents m d).length≤256):RightF (appl m d) where
 gen:=by have:=h.r.gen;have:=h.gen;show 0≤m.gen+1∧m.gen+1<_;omega
 cut:=⟨Int.le_trans h.r.cut.1 (maxI_l _ _),maxI_lt h.r.cut.2 h.e.cut.2⟩
 fence:=⟨Int.le_trans h.r.fence.1 (maxI_l _ _),maxI_lt h.r.fence.2 h.e.fence.2⟩
 lenE:=hl
 low:=fun x hx=>(ents_mem.1 hx).2
 enE:=fun x hx=>by
  rcases (ents_mem.1 hx).1 with h1|h1
  ·exact h.e.enA x h1
  ·exact h.r.enE x h1.1
 srtE:=h.srt
 mkM:=fun x hx=>by
  rcases putMs_mem d.marks h.r.srtM hx with h1|h1
  ·exact h.e.mkA x h1
  ·exact h.r.mkM x h1
 srtM:=putMs_srt d.marks h.r.srtM
 owO:=fun x hx=>by
  rcases (putL_mem h.r.srtO).1 hx with rfl|h1
  ·exact h.e.ow
  ·exact h.r.owO x h1.1
 srtO:=putL_srt h.r.srtO
theorem rise_did {m:Md} {d:Ed} (h:FineF m d):(appl m d).O.any (didB d.by_)=true :=
 List.any_eq_true.2 ⟨d.by_,(putL_mem h.r.srtO).2 (.inl rfl),by unfold didB;simp⟩
def KU (b:Option Nat) (w w':World):Prop:=∀ k t cs fr,w.heap[k]?=some (.cells cs t fr)→t≠5→some k≠b→w'.heap[k]?=w.heap[k]?
section
variable {w w' w'':World} {b:Option Nat}
theorem KU.refl (b:Option Nat) (w:World):KU b w w:=fun _ _ _ _ _ _ _=>rfl
theorem KU.trans (h:KU b w w') (h':KU b w' w''):KU b w w'':=fun k t cs fr hk ht hb=>by
 have h1:=h k t cs fr hk ht hb
 rw [h' k t cs fr (h1.trans hk) ht hb,h1]
theorem KU.below (h:Below w.heap.size w w'):KU b w w':=fun k _ _ _ hk _ _=>h.block k (hlt hk)
theorem KU.low (h:KU none w w'):KU b w w':=fun k t cs fr hk ht _=>h k t cs fr hk ht (by simp)
theorem KU.alloc (h:KU b w w') (o:Obj):KU b w (w'.alloc o):=h.trans (KU.below ((Below.refl _ _).alloc (Nat.le_refl _) o))
theorem KU.grown {base n:Nat} {v:Value} {xs:List Value} (h:w.grownBy w' v.ownBlock) (ho:w.ownsRow base 5 1 v n xs):KU b w w':=fun k t cs fr hk ht _=>by
 refine h.block k (hlt hk) fun e=>?_
 rcases ho.2 with ⟨rfl,_⟩|⟨g,cap,cur,rfl,_,hg,_⟩
 ·cases e
 ·injection e with e
  subst e
  rw [hk] at hg
  injection hg with hg
  injection hg with _ hg
  exact ht hg
theorem KU.set (h:KU b w w') {g:Nat} (hb:b=some g) (i:Nat) (v:Value):KU b w (w'.setCell ⟨g,i,none⟩ v):=fun k t cs fr hk ht hkb=>by
 have h1:=h k t cs fr hk ht hkb
 exact (Below.heap_setCell w' ⟨g,i,none⟩ v k (by rintro rfl;exact hkb hb.symm)).trans h1
theorem KU.blk {g:Nat} {t:TypeId} {cs:Array Value} (h:KU b w w') (hg:Blk w g t cs) (ht:t≠5) (hb:some g≠b):Blk w' g t cs:=(h g t cs (0,0) hg ht hb).trans hg
end
theorem strCells_eq (s:ByteArray):Lib.strCells s=s.data.toList.map byteV:=rfl
def OwnB (w:World) (base:Nat) (A:Option Addr) (c:Nat) (l:List UInt8):Prop:=w.ownsRow base 5 1 (.slice A l.length c) l.length (l.map byteV) ∨
 ∃ g cs fr,A=some ⟨g,0,none⟩∧c=l.length∧base≤g∧w.heap[g]?=some (.cells cs 5 fr)∧∀ j u,(l.map byteV)[j]?=some u→w.cell? ⟨g,j,none⟩=some u
theorem OwnB.below {w w':World} {base c:Nat} {A:Option Addr} {l:List UInt8} (h:OwnB w base A c l) (hb:Below w.heap.size w w'):OwnB w' base A c l:=by
 rcases h with h|⟨g,cs,fr,rfl,hc,hg,hh,hcell⟩
 ·exact .inl (own_below h hb)
 ·exact .inr ⟨g,cs,fr,rfl,hc,hg,(hb.block g (hlt hh)).trans hh,fun j u hu=>(hb.cell (p:=⟨g,j,none⟩) (hlt hh)).trans (hcell j u hu)⟩
theorem OwnB.bytes {w:World} {base c:Nat} {A:Option Addr} {l:List UInt8} (h:OwnB w base A c l):Bytes w w.heap.size A l.length l:=by
 rcases h with h|⟨g,cs,fr,rfl,hc,hg,hh,hcell⟩
 ·exact own_bytes h
 ·refine ⟨rfl,by simp,fun _=>⟨g,0,rfl,hlt hh,fun j u hu=>?_⟩⟩
  rw [Nat.zero_add];exact hcell j u hu
theorem OwnB.cap {w:World} {base c:Nat} {A:Option Addr} {l:List UInt8} (h:OwnB w base A c l):l.length≤c:=by
 rcases h with h|⟨g,cs,fr,rfl,hc,hg,hh,hcell⟩
 ·rcases h.2 with ⟨_,h0⟩|⟨g,cap,cur,hv,_,_,hc,_⟩
  ·omega
  ·injection hv with _ _ hv
   omega
 ·omega
theorem OwnB.set {w:World} {base c:Nat} {A:Option Addr} {l:List UInt8} (h:OwnB w base A c l) {g:Nat} {t:TypeId} {cs:Array Value} (hg:Blk w g t cs) (ht:t≠5) (i:Nat) (v:Value):OwnB (w.setCell ⟨g,i,none⟩ v) base A c l:=by
 rcases h with h|⟨g',cs',fr,rfl,hc,hg',hh,hcell⟩
 ·refine .inl ⟨h.1,?_⟩
  rcases h.2 with h2|⟨k,cap,cur,hv,hk,hh,rest⟩
  ·exact .inl h2
  ·have hne:k≠g:=by
    rintro rfl
    unfold Blk at hg
    rw [hh] at hg
    injection hg with hg
    injection hg with _ hg
    exact ht hg.symm
   exact .inr ⟨k,cap,cur,hv,hk,(Below.heap_setCell w ⟨g,i,none⟩ v k hne).trans hh,rest⟩
 ·have hne:g'≠g:=by
   rintro rfl
   unfold Blk at hg
   rw [hh] at hg
   injection hg with hg
   injection hg with _ hg
   exact ht hg.symm
  exact .inr ⟨g',cs',fr,rfl,hc,hg',(Below.heap_setCell w ⟨g,i,none⟩ v g' hne).trans hh,fun j u hu=>(World.cell?_setCell_other w ⟨g,i,none⟩ ⟨g',j,none⟩ v (fun e=>hne (by injection e with e;exact e.symm))).trans (hcell j u hu)⟩
section
variable {P:Program} (w:World)
theorem run_append_B (base:Nat) (t ty:TypeId) (ht:P.underlying t=some (.slice 5)) (hi:(P.info? 5).map (fun i=>(i.zero,i.size,i.bytes))=some (some (.int .u8 0),1,1))
  {A:Option Addr} {c:Nat} {l:List UInt8} (hown:OwnB w base A c l) {B c2:Nat} {A2:Option Addr} {x:List UInt8} (hx:Bytes w B A2 x.length x) (h0:0<x.length) (hl:l.length+x.length≤100000100) (hbase:base≤w.heap.size) :
  ∃ A' c' w',(Builtin.append_ #[t,t] ty #[.slice A l.length c,.slice A2 x.length c2]).run P w=.ok (.slice A' (l++x).length c') w'∧w'.ownsRow base 5 1 (.slice A' (l++x).length c') (l++x).length ((l++x).map byteV)∧Below base w w'∧KU none w w':=by
 have hlen:(l++x).length=l.length+x.length:=List.length_append
 rcases hown with h|⟨g,cs,fr,rfl,rfl,hg,hh,hcell⟩
 ·obtain ⟨i,hi,hz,hsz,hby⟩:=info_parts hi
  obtain ⟨v',w',hr,h2,h3,h4⟩:=run_append_any (P:=P) w base t ty 5 i _ 1 1 ht hi hz hsz hby rfl (by omega) _ l.length _ h B A2 x.length c2 (x.map byteV) hx.2 (byteV_one _) (by unfold maxLen;omega) (by omega) hbase
  rw [← List.map_append,← hlen] at h2
  obtain ⟨A',c',rfl,k1,k2,k3⟩:=own_slice h2
  exact ⟨A',c',w',hr,h2,(Below.refl base w).grown h3 hbase (fun k hk=>(h.lt k hk).1),KU.grown h3 h⟩
 ·obtain ⟨i,hi,hz,hsz,hby⟩:=info_parts hi
  obtain ⟨b2,off,rfl,_,hnews⟩:=hx.2.2 h0
  have hr:=run_append_grow (P:=P) w t ty 5 i _ ht hi hz ⟨g,0,none⟩ l.length l.length (l.map byteV) (by rw [hsz];simp) (fun j u hu=>by rw [addr_add,Nat.zero_add];exact hcell j u hu) ⟨b2,off,none⟩ x.length c2 (x.map byteV) (by rw [hsz];simp) (fun j u hu=>by rw [addr_add];exact hnews j u hu) (by omega) (by omega) (by rw [hby];exact growslice_fits (by omega) (by omega))
  have hge:=grownCap_ge w (l.length+x.length) l.length 5
  have hcm:grownCap w (l.length+x.length) l.length 5≤maxLen:=grownCap_le_maxLen w (l.length+x.length) l.length _ (by unfold maxLen;omega)
  rw [← hlen] at hr hge hcm
  refine ⟨_,_,_,hr,⟨by simp,.inr ⟨_,_,_,rfl,hbase,heap_alloc_new w.drew _,hge,hcm,?_,?_⟩⟩,?_,?_⟩
  ·have hz1:(Value.int IntKind.u8 0).cells.size=1:=rfl
   simp only [Array.size_append,List.size_toArray,size_zeroCells,hz1,List.length_map]
   omega
  ·simp only [Array.toList_append,List.append_assoc]
   rw [← List.append_assoc,← List.map_append,Nat.mul_one]
   have e:(l++x).length=((l++x).map byteV).length:=by simp
   rw [e];exact List.take_left
  ·exact (below_drewN_ (Below.refl base w) 1).alloc hbase _
  ·exact KU.below ((below_drewN_ (Below.refl w.heap.size w) 1).alloc (Nat.le_refl _) _)
theorem wp_append_B {o:Oper} {a:Act} {K:Act→World→Prop} {Q:Exit→Act→World→Prop} (s x:Operand) (t:TypeId)
  (ho:o.op=.call { callee:=.builtin .append,args:=#[s,x],argTypes:=#[t,t] })
  (base:Nat) (ht:P.underlying t=some (.slice 5)) (hi:(P.info? 5).map (fun i=>(i.zero,i.size,i.bytes))=some (some (.int .u8 0),1,1))
  {A:Option Addr} {c:Nat} {l:List UInt8} (hs:a.eval s=.slice A l.length c) (hown:OwnB w base A c l) {B c2:Nat} {A2:Option Addr} {y:List UInt8} (hx:a.eval x=.slice A2 y.length c2) (hy:Bytes w B A2 y.length y) (h0:0<y.length) (hl:l.length+y.length≤100000100) (hbase:base≤w.heap.size)
  (h:∀ A' c' w',w'.ownsRow base 5 1 (.slice A' (l++y).length c') (l++y).length ((l++y).map byteV)→Below base w w'→KU none w w'→K (a.put o.dst (.slice A' (l++y).length c')) w'):o.wp P a w K Q:=by
 obtain ⟨A',c',w',hr,h2,h3,h4⟩:=run_append_B (P:=P) w base t o.type ht hi hown (c2:=c2) hy h0 hl hbase
 unfold Oper.wp execOp
 simp only [ho,resolve,invoke,builtin,Sem.run_bind,Sem.run_pure,Result.andThen_ok,List.map_toArray,List.map_cons,List.map_nil,hs,hx,hr]
 exact h A' c' w' h2 h3 h4
theorem wpList_append_B {ops:Array Oper} {rest:List Oper} {o:Oper} {a:Act} {Q:Exit→Act→World→Prop} (hgd:o.guard=none) (s x:Operand) (t:TypeId)
  (ho:o.op=.call { callee:=.builtin .append,args:=#[s,x],argTypes:=#[t,t] })
  (base:Nat) (ht:P.underlying t=some (.slice 5)) (hi:(P.info? 5).map (fun i=>(i.zero,i.size,i.bytes))=some (some (.int .u8 0),1,1))
  {A:Option Addr} {c:Nat} {l:List UInt8} (hs:a.eval s=.slice A l.length c) (hown:OwnB w base A c l) {B c2:Nat} {A2:Option Addr} {y:List UInt8} (hx:a.eval x=.slice A2 y.length c2) (hy:Bytes w B A2 y.length y) (h0:0<y.length) (hl:l.length+y.length≤100000100) (hbase:base≤w.heap.size)
  (h:∀ A' c' w',w'.ownsRow base 5 1 (.slice A' (l++y).length c') (l++y).length ((l++y).map byteV)→Below base w w'→KU none w w'→wpList P ops Q rest (a.put o.dst (.slice A' (l++y).length c')) w'):wpList P ops Q (o::rest) a w :=
 wpList_plain hgd fun _ hK=>wp_append_B w s x t ho base ht hi hs hown hx hy h0 hl hbase fun A' c' w' h2 h3 h4=>hK _ _ (h A' c' w' h2 h3 h4)
theorem step_append_B {ops:Array Oper} {o:Oper} {a:Act} {K:Act→World→Prop} {Q:Exit→Act→World→Prop} {E:Prop} (hgd:o.guard=none) (s x:Operand) (t:TypeId)
  (ho:o.op=.call { callee:=.builtin .append,args:=#[s,x],argTypes:=#[t,t] })
  (base:Nat) (ht:P.underlying t=some (.slice 5)) (hi:(P.info? 5).map (fun i=>(i.zero,i.size,i.bytes))=some (some (.int .u8 0),1,1))
  {A:Option Addr} {c:Nat} {l:List UInt8} (hs:a.eval s=.slice A l.length c) (hown:OwnB w base A c l) {B c2:Nat} {A2:Option Addr} {y:List UInt8} (hx:a.eval x=.slice A2 y.length c2) (hy:Bytes w B A2 y.length y) (h0:0<y.length) (hl:l.length+y.length≤100000100) (hbase:base≤w.heap.size)
  (h:∀ A' c' w',w'.ownsRow base 5 1 (.slice A' (l++y).length c') (l++y).length ((l++y).map byteV)→Below base w w'→KU none w w'→K (a.put o.dst (.slice A' (l++y).length c')) w') :
  if Region.wanted o (yielded ops a.tmps)=true then Oper.wp P o a w K Q else E:=by
 have hw:Region.wanted o (yielded ops a.tmps)=true:=by simp [Region.wanted,hgd]
 rw [if_pos hw]
 exact wp_append_B w s x t ho base ht hi hs hown hx hy h0 hl hbase h
end
section
variable {P:Program} {w:World}
theorem step_append_str {ops:Array Oper} {o:Oper} {a:Act} {K:Act→World→Prop} {Q:Exit→Act→World→Prop} {E:Prop} (hgd:o.guard=none) (sl x:Operand) (t u:TypeId)
  (ho:o.op=.call { callee:=.builtin .append,args:=#[sl,x],argTypes:=#[t,u] })
  (base:Nat) (e:TypeId) (ht:P.underlying t=some (.slice e)) (hu:P.underlying u=some .string) (hi:(P.info? e).map (fun i=>(i.zero,i.size,i.bytes))=some (some (.int .u8 0),1,1))
  {v:Value} {l:List UInt8} (hs:a.eval sl=v) (hown:w.ownsRow base e 1 v l.length (l.map byteV)) {s:ByteArray} (hx:a.eval x=.string s)
  (hl:l.length+s.size≤100000000) (hbase:base≤w.heap.size)
  (h:∀ A' c' w',w'.ownsRow base e 1 (.slice A' (l++s.data.toList).length c') (l++s.data.toList).length ((l++s.data.toList).map byteV)→w.grownBy w' v.ownBlock→K (a.put o.dst (.slice A' (l++s.data.toList).length c')) w') :
  if Region.wanted o (yielded ops a.tmps)=true then Oper.wp P o a w K Q else E:=by
 have hw:Region.wanted o (yielded ops a.tmps)=true:=by simp [Region.wanted,hgd]
 rw [if_pos hw]
 obtain ⟨i,hi,hz,hsz,hby⟩:=info_parts hi
 obtain ⟨v',w',hr,h2,h3,h4⟩:=Lib.run_append_own_string (P:=P) w base t u o.type e i ht hu hi hz hsz hby v l.length _ hown s (by unfold maxLen;omega) (by omega) hbase
 have hlen:(l++s.data.toList).length=l.length+s.size:=by rw [List.length_append];rfl
 rw [strCells_eq,← List.map_append,← hlen] at h2
 obtain ⟨A',c',rfl,k1,k2,k3⟩:=own_slice h2
 unfold Oper.wp execOp
 simp only [ho,resolve,invoke,builtin,Sem.run_bind,Sem.run_pure,Result.andThen_ok,List.map_toArray,List.map_cons,List.map_nil,hs,hx,hr]
 exact h A' c' w' h2 h3
end
section
variable {P:Program} (w:World)
theorem run_append_S (base:Nat) (t u ty:TypeId) (ht:P.underlying t=some (.slice 5)) (hu:P.underlying u=some .string) (hi:(P.info? 5).map (fun i=>(i.zero,i.size,i.bytes))=some (some (.int .u8 0),1,1))
  {A:Option Addr} {c:Nat} {l:List UInt8} (hown:OwnB w base A c l) {s:ByteArray} (hl:l.length+s.size≤100000100) (hbase:base≤w.heap.size) :
  ∃ A' c' w',(Builtin.append_ #[t,u] ty #[.slice A l.length c,.string s]).run P w=.ok (.slice A' (l++s.data.toList).length c') w'∧OwnB w' base A' c' (l++s.data.toList)∧Below base w w'∧KU none w w':=by
 have hlen:(l++s.data.toList).length=l.length+s.size:=by rw [List.length_append];rfl
 rcases hown with h|⟨g,cs,fr,rfl,rfl,hg,hh,hcell⟩
 ·obtain ⟨i,hi,hz,hsz,hby⟩:=info_parts hi
  obtain ⟨v',w',hr,h2,h3,h4⟩:=Lib.run_append_own_string (P:=P) w base t u ty 5 i ht hu hi hz hsz hby _ l.length _ h s (by unfold maxLen;omega) (by omega) hbase
  rw [strCells_eq,← List.map_append,← hlen] at h2
  obtain ⟨A',c',rfl,k1,k2,k3⟩:=own_slice h2
  exact ⟨A',c',w',hr,.inl h2,(Below.refl base w).grown h3 hbase (fun k hk=>(h.lt k hk).1),KU.grown h3 h⟩
 ·obtain ⟨i,hi,hz,hsz,hby⟩:=info_parts hi
  by_cases h0:s.size=0
  ·have hn:s.data.toList=[]:=List.eq_nil_of_length_eq_zero h0
   have hf:=Lib.run_firstCells_string (P:=P) w 1 s
   have hsc:Lib.strCells s=[]:=by unfold Lib.strCells;rw [hn];rfl
   rw [h0,hsc] at hf
   refine ⟨_,l.length,w,?_,.inr ⟨g,cs,fr,rfl,by rw [hn,List.append_nil],hg,hh,by rw [hn,List.append_nil];exact hcell⟩,Below.refl _ _,KU.refl _ _⟩
   rw [hn,List.append_nil]
   simp [Builtin.append_,run_underlying ht,run_underlying hu,sizeOf,typeInfo,hi,hsz,Builtin.lenOf,h0,hf,storeCells]
  ·have hr:=Lib.run_append_grow_string (P:=P) w t u ty 5 i _ ht hu hi hz ⟨g,0,none⟩ l.length l.length (l.map byteV) (by rw [hsz];simp) (fun j u hu=>by rw [addr_add,Nat.zero_add];exact hcell j u hu) s (by omega) (by omega) (by rw [hby];exact growslice_fits (by omega) (by omega))
   have hge:=grownCap_ge w (l.length+s.size) l.length 5
   have hcm:grownCap w (l.length+s.size) l.length 5≤maxLen:=grownCap_le_maxLen w (l.length+s.size) l.length _ (by unfold maxLen;omega)
   rw [← hlen] at hr hge hcm
   refine ⟨_,_,_,hr,.inl ⟨by simp,.inr ⟨_,_,_,rfl,hbase,heap_alloc_new w.drew _,hge,hcm,?_,?_⟩⟩,?_,?_⟩
   ·have hz1:(Value.int IntKind.u8 0).cells.size=1:=rfl
    simp only [Array.size_append,List.size_toArray,size_zeroCells,hz1,List.length_map,Lib.strCells_length]
    omega
   ·simp only [Array.toList_append,List.append_assoc]
    rw [← List.append_assoc,strCells_eq,← List.map_append,Nat.mul_one]
    have e:(l++s.data.toList).length=((l++s.data.toList).map byteV).length:=by simp
    rw [e];exact List.take_left
   ·exact (below_drewN_ (Below.refl base w) 1).alloc hbase _
   ·exact KU.below ((below_drewN_ (Below.refl w.heap.size w) 1).alloc (Nat.le_refl _) _)
theorem wp_append_S {o:Oper} {a:Act} {K:Act→World→Prop} {Q:Exit→Act→World→Prop} (sl x:Operand) (t u:TypeId)
  (ho:o.op=.call { callee:=.builtin .append,args:=#[sl,x],argTypes:=#[t,u] })
  (base:Nat) (ht:P.underlying t=some (.slice 5)) (hu:P.underlying u=some .string) (hi:(P.info? 5).map (fun i=>(i.zero,i.size,i.bytes))=some (some (.int .u8 0),1,1))
  {A:Option Addr} {c:Nat} {l:List UInt8} (hs:a.eval sl=.slice A l.length c) (hown:OwnB w base A c l) {s:ByteArray} (hx:a.eval x=.string s) (hl:l.length+s.size≤100000100) (hbase:base≤w.heap.size)
  (h:∀ A' c' w',OwnB w' base A' c' (l++s.data.toList)→Below base w w'→KU none w w'→K (a.put o.dst (.slice A' (l++s.data.toList).length c')) w'):o.wp P a w K Q:=by
 obtain ⟨A',c',w',hr,h2,h3,h4⟩:=run_append_S (P:=P) w base t u o.type ht hu hi hown hl hbase
 unfold Oper.wp execOp
 simp only [ho,resolve,invoke,builtin,Sem.run_bind,Sem.run_pure,Result.andThen_ok,List.map_toArray,List.map_cons,List.map_nil,hs,hx,hr]
 exact h A' c' w' h2 h3 h4
theorem wpList_append_str {ops:Array Oper} {rest:List Oper} {o:Oper} {a:Act} {Q:Exit→Act→World→Prop} (hgd:o.guard=none) (sl x:Operand) (t u:TypeId)
  (ho:o.op=.call { callee:=.builtin .append,args:=#[sl,x],argTypes:=#[t,u] })
  (base:Nat) (ht:P.underlying t=some (.slice 5)) (hu:P.underlying u=some .string) (hi:(P.info? 5).map (fun i=>(i.zero,i.size,i.bytes))=some (some (.int .u8 0),1,1))
  {A:Option Addr} {c:Nat} {l:List UInt8} (hs:a.eval sl=.slice A l.length c) (hown:OwnB w base A c l) {s:ByteArray} (hx:a.eval x=.string s) (hl:l.length+s.size≤100000100) (hbase:base≤w.heap.size)
  (h:∀ A' c' w',OwnB w' base A' c' (l++s.data.toList)→Below base w w'→KU none w w'→wpList P ops Q rest (a.put o.dst (.slice A' (l++s.data.toList).length c')) w'):wpList P ops Q (o::rest) a w :=
 wpList_plain hgd fun _ hK=>wp_append_S w sl x t u ho base ht hu hi hs hown hx hl hbase fun A' c' w' h2 h3 h4=>hK _ _ (h A' c' w' h2 h3 h4)
end
def Nums (w:World) (g:Nat) (L:List Int):Prop:=∃ cs:Array Value,Blk w g 3 cs∧∀ j,j<L.length→cs[j]?=some (.int .i64 (gt L j))
theorem Nums.keep {w w':World} {g:Nat} {L:List Int} {b:Option Nat} (h:Nums w g L) (hk:KU b w w') (hb:some g≠b):Nums w' g L:=by
 obtain ⟨cs,h1,h2⟩:=h
 exact ⟨cs,hk.blk h1 (by decide) hb,h2⟩
theorem Nums.cell {w:World} {g:Nat} {L:List Int} (h:Nums w g L) {j:Nat} (hj:j<L.length):w.cell? ⟨g,j,none⟩=some (.int .i64 (gt L j)):=by
 obtain ⟨cs,h1,h2⟩:=h
 rw [h1.cell,h2 j hj]
theorem us_take {L:List Int} {j x:Nat} (hj:j<L.length) (hx:gt L j=(x:Int)):us (L.take (j+1))=us (L.take j)++Nu.putU x:=by
 rw [take_gt hj,us_app,hx]
 simp [us]
theorem us_room {L:List Int} (j:Nat) (h:∀ n∈L,0≤n∧n≤9223372036854775807):(us (L.take j)).length≤10*L.length:=by
 have:=us_len (L.take j) (fun n hn=>by have:=h n (List.mem_of_mem_take hn);omega)
 have h2:(L.take j).length≤L.length:=by rw [List.length_take];omega
 omega
theorem us_all (L:List Int):us (L.take L.length)=us L:=by rw [List.take_length]
def RetU (base:Nat) (w:World) (l:List UInt8) (e:Ending) (w':World):Prop:=∃ A c,e=.returned (.slice A l.length c)∧w'.ownsRow base 5 1 (.slice A l.length c) l.length (l.map byteV)∧Below base w w'∧KU none w w'
set_option maxRecDepth 100000 in
set_option maxHeartbeats 1600000 in
theorem u_calls (w:World) {base g c c2:Nat} {A:Option Addr} {l:List UInt8} {L:List Int} (hown:OwnB w base A c l) (hL:Nums w g L) (h0:∀ n∈L,0≤n∧n≤9223372036854775807) (hn:0<L.length) (hl:l.length+10*L.length≤100000000) (hb:base≤w.heap.size) :
  Calls Tryz.prog 39 #[.slice A l.length c,.slice (some ⟨g,0,none⟩) L.length c2] w (RetU base w (l++us L)):=by
 have H0:=Jh h0
 have HN:=Jh hn
 clear h0 hn
 have hw0:Hid (OwnB w base A c (l++us (L.take 0))):=Jh (by simpa [us] using hown)
 have hs0:Value.slice A l.length c=.slice A (l++us (L.take 0)).length c:=by simp [us]
 have HE:=Jh (us_all L)
 rw [hs0]
 clear hs0 hown
 go_enter Tryz.func39,Tryz.ntmps39
 go_wp2
 go_loopw [0,9] (fun v i wr=>∃ (j:Nat) (A':Option Addr) (c':Nat),j≤L.length∧i=.int .i64 (j:Int)∧v=.slice A' (l++us (L.take j)).length c'∧Hid (OwnB wr base A' c' (l++us (L.take j)))∧Hid (0<j→wr.ownsRow base 5 1 (.slice A' (l++us (L.take j)).length c') (l++us (L.take j)).length ((l++us (L.take j)).map byteV))∧Below base w wr∧KU none w wr) (fun _ i _=>L.length-(intOf i).toNat)
 case atStart=>exact ⟨0,A,c,Nat.zero_le _,rfl,rfl,hw0,Jh (fun h=>absurd h (by omega)),Below.refl _ _,KU.refl _ _⟩
 case round =>
  clear hw0
  obtain ⟨j,A',c',hj,rfl,rfl,Hown,Hstr,hbel,hku⟩:=hrel
  by_cases hlt:j<L.length
  ·have cj:=(hL.keep hku (by simp)).cell hlt
   have hx0:=H0.out _ (gt_mem hlt)
   obtain ⟨x,hx⟩:∃ x:Nat,gt L j=(x:Int):=⟨(gt L j).toNat,by omega⟩
   have Hu:Hid (l++us (L.take (j+1))=(l++us (L.take j))++Nu.putU x):=Jh (by rw [us_take hlt hx,List.append_assoc])
   have Hr:=Jh (us_room j H0.out)
   rw [hx] at cj hx0
   clear hx Hstr
   have hpl:=Nu.putU_len10 (n:=x) (by omega)
   have hpp:=Nu.putU_pos x
   have HP:=fun W=>Nu.putURef_calls x W hpl (by omega)
   have hwx:IntKind.u64.wrap (x:Int)=(x:Int):=by rw [IntKind.wrap_u64];omega
   have Hsz:Hid ((l++us (L.take j)).length+(Nu.putU x).length≤100000100):=Jh (by rw [List.length_append];have:=Hr.out;omega)
   generalize l++us (L.take j)=pre at *
   go_wp2_with fail
   refine (HP wr).mono ?_
   rintro e w1 he
   obtain ⟨A1,c1,rfl,hc1,hm1,hb1,hbel1,hown1⟩:=he.opened
   have hown':=Hown.out.below hbel1
   have hbw:base≤w1.heap.size:=by have:=hbel.size;have:=hbel1.size;omega
   clear HP he hown1
   go_wp2_with (at_builtin;go_must (refine wpList_append_B _ rfl (.tmp 13) (.tmp 16) _ rfl base Tryz.underlying33 Nu.Tryz.infoU8 rfl hown' rfl hb1 hpp Hsz.out hbw ?_))
   intro A2 c2 w2 hown2 hbel2 hku2
   have hku2:KU none w w2:=(hku.trans (KU.below hbel1)).trans hku2
   have hbel3:Below base w w2:=(hbel.trans (hbel1.mono (by have:=hbel.size;omega))).trans hbel2
   have Hown2:Hid (w2.ownsRow base 5 1 (.slice A2 (pre++Nu.putU x).length c2) (pre++Nu.putU x).length ((pre++Nu.putU x).map byteV)):=Jh (by simpa using hown2)
   clear hown2 hown'
   go_wp2
   go_roundw
   case rel=>exact ⟨j+1,A2,c2,by omega,by go_num,by rw [Hu.out,List.length_append],by rw [Hu.out];exact Jh (.inl Hown2.out),by rw [Hu.out];exact Jh fun _=>Hown2.out,hbel3,hku2⟩
   case measure=>simp [intOf];omega
  ·obtain rfl:j=L.length:=by omega
   go_wp2
   go_ret
   rw [HE.out] at *
   exact ⟨A',c',rfl,Hstr.out HN.out,hbel,hku⟩
abbrev Fits (L:List Int):Prop:=∀ n∈L,0≤n∧n≤9223372036854775807
theorem fits_len {L:List Int} (h:Fits L):(us L).length≤10*L.length:=us_len L fun n hn=>by have:=h n hn;omega
theorem fits_nil:Fits []:=fun _ h=>by cases h
theorem fits_cons {a:Int} {L:List Int} (h1:0≤a) (h2:a≤9223372036854775807) (h:Fits L):Fits (a::L):=List.forall_mem_cons.2 ⟨⟨h1,h2⟩,h⟩
theorem nums_built (W:World) {cs:Array Value} {L:List Int} (h:cs.toList=L.map (Value.int .i64)):Nums (W.alloc (.cells cs 3)) W.heap.size L :=
 ⟨cs,Blk.new _ _ _,fun j hj=>by rw [← Array.getElem?_toList,h,List.getElem?_map,gt_at hj];rfl⟩
theorem nums_built1 (W:World) {cs:Array Value} {L:List Int} {g:Nat} (hg:g=W.heap.size) (h:cs.toList=L.map (Value.int .i64)):Nums (W.alloc (.cells cs 3)) g L:=by subst hg;exact nums_built W h
theorem most_le {n:Int} (h:n≤most):n≤9223372036854775807:=by unfold most at h;omega
theorem En.In.f1 {x:En} (h:x.In):Fits [(x.key.size:Int)]:=fits_cons (by omega) (by have:=h.key;omega) fits_nil
theorem En.In.f2 {x:En} (h:x.In):Fits [x.window,(x.part.size:Int)]:=fits_cons h.window.1 (most_le h.window.2) (fits_cons (by omega) (by have:=h.part;omega) fits_nil)
theorem En.In.f2a {x:En} (h:x.In):Fits [x.window]:=fits_cons h.window.1 (most_le h.window.2) fits_nil
theorem En.In.f2b {x:En} (h:x.In):Fits [(x.part.size:Int)]:=fits_cons (by omega) (by have:=h.part;omega) fits_nil
theorem En.In.f6 {x:En} (h:x.In):Fits [x.first,x.last,x.rows,x.size,x.sum,x.born] :=
 fits_cons h.first.1 (most_le h.first.2) (fits_cons h.last.1 (most_le h.last.2) (fits_cons h.rows.1 (most_le h.rows.2) (fits_cons h.size.1 (most_le h.size.2) (fits_cons h.sum.1 (by have:=h.sum.2;omega) (fits_cons h.born.1 (most_le h.born.2) fits_nil)))))
theorem encE_len {x:En} (h:x.In):(encE x).length≤1154:=by
 have h1:=fits_len h.f1
 have h2:=fits_len h.f2
 have h6:=fits_len h.f6
 have e1:x.key.data.toList.length=x.key.size:=rfl
 have e2:x.part.data.toList.length=x.part.size:=rfl
 have k1:=h.key
 have k2:=h.part
 unfold encE
 simp only [List.length_append,List.length_cons,List.length_nil] at *
 omega
theorem encE_fl {l:List En} (h:∀ x∈l,x.In):(l.flatMap encE).length≤1154*l.length:=by
 induction l with
 | nil=>simp
 | cons x l ih =>
  have h1:=encE_len (h x List.mem_cons_self)
  have h2:=ih fun y hy=>h y (List.mem_cons_of_mem _ hy)
  rw [List.flatMap_cons,List.length_append,List.length_cons];omega
theorem Md.In.fK {m:Md} (h:m.In) {x:Mk} (hx:x∈m.M):Fits [x.maker,x.seq]:=fits_cons (h.M x hx).1.1 (most_le (h.M x hx).1.2) (fits_cons (h.M x hx).2.1 (most_le (h.M x hx).2.2) fits_nil)
theorem Md.In.fO {m:Md} (h:m.In) {x:Ow} (hx:x∈m.O):Fits [x.agent,x.life,x.count]:=fits_cons (h.O x hx).1.1 (most_le (h.O x hx).1.2) (fits_cons (h.O x hx).2.1.1 (most_le (h.O x hx).2.1.2) (fits_cons (h.O x hx).2.2.1 (most_le (h.O x hx).2.2.2) fits_nil))
theorem Md.In.f4 {m:Md} (h:m.In):Fits [m.gen,m.cut,m.fence,(m.E.length:Int)]:=fits_cons h.gen.1 (most_le h.gen.2) (fits_cons h.cut.1 (most_le h.cut.2) (fits_cons h.fence.1 (most_le h.fence.2) (fits_cons (by omega) (by have:=h.le;omega) fits_nil)))
theorem Md.In.fm {m:Md} (h:m.In):Fits [(m.M.length:Int)]:=fits_cons (by omega) (by have:=h.lm;omega) fits_nil
theorem Md.In.fo {m:Md} (h:m.In):Fits [(m.O.length:Int)]:=fits_cons (by omega) (by have:=h.lo;omega) fits_nil
def preE (m:Md) (k:Nat):List UInt8:=(head5++us [m.gen,m.cut,m.fence,(m.E.length:Int)])++(m.E.take k).flatMap encE
def preM (m:Md) (k:Nat):List UInt8:=(preE m m.E.length++us [(m.M.length:Int)])++(m.M.take k).flatMap encK
def preO (m:Md) (k:Nat):List UInt8:=(preM m m.M.length++us [(m.O.length:Int)])++(m.O.take k).flatMap encO
theorem preE_0 (m:Md):preE m 0=head5++us [m.gen,m.cut,m.fence,(m.E.length:Int)]:=by simp [preE]
theorem preM_0 (m:Md):preM m 0=preE m m.E.length++us [(m.M.length:Int)]:=by simp [preM]
theorem preO_0 (m:Md):preO m 0=preM m m.M.length++us [(m.O.length:Int)]:=by simp [preO]
theorem preE_s {m:Md} {k:Nat} (h:k<m.E.length):preE m (k+1)=preE m k++encE (gt m.E k):=by
 unfold preE;rw [take_gt h,List.flatMap_append,List.append_assoc,List.append_assoc];simp
theorem preM_s {m:Md} {k:Nat} (h:k<m.M.length):preM m (k+1)=preM m k++us [(gt m.M k).maker,(gt m.M k).seq]:=by
 unfold preM;rw [take_gt h,List.flatMap_append];simp [encK]
theorem preO_s {m:Md} {k:Nat} (h:k<m.O.length):preO m (k+1)=preO m k++us [(gt m.O k).agent,(gt m.O k).life,(gt m.O k).count]:=by
 unfold preO;rw [take_gt h,List.flatMap_append];simp [encO]
theorem preO_all (m:Md):preO m m.O.length=encT m:=by
 simp only [preO,preM,preE,encT,List.take_length,List.append_assoc]
theorem preE_len {m:Md} (h:m.In) (k:Nat):(preE m k).length≤296000:=by
 have h1:=fits_len h.f4
 have h2:=encE_fl (l:=m.E.take k) fun x hx=>h.E x (List.mem_of_mem_take hx)
 have h3:(m.E.take k).length≤256:=by rw [List.length_take];have:=h.le;omega
 have h4:head5.length=5:=rfl
 unfold preE
 simp only [List.length_append,List.length_cons,List.length_nil] at *
 omega
theorem fl_len {α:Type} {f:α→List UInt8} {l:List α} {n:Nat} (h:∀ x∈l,(f x).length≤n):(l.flatMap f).length≤n*l.length:=by
 induction l with
 | nil=>simp
 | cons x l ih =>
  have h1:=h x List.mem_cons_self
  have h2:=ih fun y hy=>h y (List.mem_cons_of_mem _ hy)
  rw [List.flatMap_cons,List.length_append,List.length_cons,Nat.mul_add];omega
theorem preM_len {m:Md} (h:m.In) (k:Nat):(preM m k).length≤298000:=by
 have h1:=fits_len h.fm
 have h0:=preE_len h m.E.length
 have h2:=fl_len (f:=encK) (l:=m.M.take k) (n:=20) fun x hx=>fits_len (h.fK (List.mem_of_mem_take hx))
 have h3:(m.M.take k).length≤64:=by rw [List.length_take];have:=h.lm;omega
 unfold preM
 simp only [List.length_append,List.length_cons,List.length_nil] at *
 omega
theorem preO_len {m:Md} (h:m.In) (k:Nat):(preO m k).length≤299000:=by
 have h1:=fits_len h.fo
 have h0:=preM_len h m.M.length
 have h2:=fl_len (f:=encO) (l:=m.O.take k) (n:=30) fun x hx=>fits_len (h.fO (List.mem_of_mem_take hx))
 have h3:(m.O.take k).length≤8:=by rw [List.length_take];have:=h.lo;omega
 unfold preO
 simp only [List.length_append,List.length_cons,List.length_nil] at *
 omega
theorem wrap_i64 {n:Int} (h1:0≤n) (h2:n≤4294967295):IntKind.i64.wrap n=n:=by rw [IntKind.wrap_i64];omega
theorem head_own (W:World) {base:Nat} (hb:base≤W.heap.size) {fr:Nat × Nat}:OwnB (W.alloc (.cells #[.int .u8 77,.int .u8 65,.int .u8 78,.int .u8 73,.int .u8 1] 5 fr)) base (some ⟨W.heap.size,0,none⟩) 5 head5 :=
 .inr ⟨_,_,fr,rfl,rfl,hb,heap_alloc_new W _,fun j u hu=>by
  rw [cell_of_row _ _ j _ _ fr (heap_alloc_new W _)]
  rw [← hu];exact (Array.getElem?_toList (xs:=#[Value.int .u8 77,.int .u8 65,.int .u8 78,.int .u8 73,.int .u8 1])).symm⟩
theorem ent_bytes (pre:List UInt8) (x:En):((((pre++us [(x.key.size:Int)])++x.key.data.toList)++us [x.window,(x.part.size:Int)])++x.part.data.toList)++us [x.first,x.last,x.rows,x.size,x.sum,x.born]=pre++encE x:=by
 unfold encE;simp only [List.append_assoc]
theorem us_lenR {L:List Int} (h:Fits L) {pre:List UInt8} {n:Nat} (hp:pre.length≤n):(pre++us L).length≤n+10*L.length:=by
 have:=fits_len h
 rw [List.length_append];omega
theorem str_lenR {s:ByteArray} {pre:List UInt8} {n:Nat} (hp:pre.length≤n):(pre++s.data.toList).length≤n+s.size:=by
 have e:s.data.toList.length=s.size:=rfl
 rw [List.length_append];omega
set_option maxRecDepth 100000 in
set_option maxHeartbeats 12800000 in
theorem encR_calls (w:World) {B:Nat} {m:Md} {p:Pl} (h:Man w B m p) (hB:B≤w.heap.size) (hm:m.In) :
  Calls Tryz.prog 19 #[mdV m p] w (RetBytes 5 w (encB m)):=by
 have kc:=Joins.run_convert_bytes_const_at (P:=Tryz.prog) (w.alloc (.cells #[.int .i64 m.gen,.int .i64 m.cut,.int .i64 m.fence,.slice p.AE m.E.length p.cE,.slice p.AM m.M.length p.cM,.slice p.AO m.O.length p.cO] 53)) 33 5 #[.int .u8 77,.int .u8 65,.int .u8 78,.int .u8 73,.int .u8 1] 5 5 (w.heap.size+1) (by simp) Tryz.underlying33 Tryz.underlying5
 have HIn:=Jh hm
 have HR:=Jh fun W (hW:Below w.heap.size w W)=>h.below (hW.mono hB)
 have HK:Hid (∀ W,KU none (w.alloc (.cells #[.int .i64 m.gen,.int .i64 m.cut,.int .i64 m.fence,.slice p.AE m.E.length p.cE,.slice p.AM m.M.length p.cM,.slice p.AO m.O.length p.cO] 53)) W→W.cell? ⟨w.heap.size,0,none⟩=some (.int .i64 m.gen)∧W.cell? ⟨w.heap.size,1,none⟩=some (.int .i64 m.cut)∧W.cell? ⟨w.heap.size,2,none⟩=some (.int .i64 m.fence)∧W.cell? ⟨w.heap.size,3,none⟩=some (.slice p.AE m.E.length p.cE)∧W.cell? ⟨w.heap.size,4,none⟩=some (.slice p.AM m.M.length p.cM)∧W.cell? ⟨w.heap.size,5,none⟩=some (.slice p.AO m.O.length p.cO)):=Jh fun W hW=>by
  have hb:=hW.blk (Blk.new w 53 #[.int .i64 m.gen,.int .i64 m.cut,.int .i64 m.fence,.slice p.AE m.E.length p.cE,.slice p.AM m.M.length p.cM,.slice p.AO m.O.length p.cO]) (by decide) (by simp)
  exact ⟨hb.cell 0,hb.cell 1,hb.cell 2,hb.cell 3,hb.cell 4,hb.cell 5⟩
 have hlE:=h.le
 have HLM:=Jh h.lm
 have HLO:=Jh h.lo
 clear h hm
 obtain ⟨AE,cE,AM,cM,AO,cO⟩:=p
 dsimp only at *
 have HbW:Hid (Below w.heap.size w (((w.alloc (.cells #[.int .i64 m.gen,.int .i64 m.cut,.int .i64 m.fence,.slice AE m.E.length cE,.slice AM m.M.length cM,.slice AO m.O.length cO] 53)).alloc (.cells #[.int .u8 77,.int .u8 65,.int .u8 78,.int .u8 73,.int .u8 1] 5 (5,6))).alloc (.cells #[.int .i64 m.gen,.int .i64 m.cut,.int .i64 m.fence,.int .i64 (m.E.length:Int)] 3))):=Jh ((((Below.refl _ _).alloc (Nat.le_refl _) _).alloc (by simp) _).alloc (by simp;omega) _)
 have HkW:Hid (KU none (w.alloc (.cells #[.int .i64 m.gen,.int .i64 m.cut,.int .i64 m.fence,.slice AE m.E.length cE,.slice AM m.M.length cM,.slice AO m.O.length cO] 53)) (((w.alloc (.cells #[.int .i64 m.gen,.int .i64 m.cut,.int .i64 m.fence,.slice AE m.E.length cE,.slice AM m.M.length cM,.slice AO m.O.length cO] 53)).alloc (.cells #[.int .u8 77,.int .u8 65,.int .u8 78,.int .u8 73,.int .u8 1] 5 (5,6))).alloc (.cells #[.int .i64 m.gen,.int .i64 m.cut,.int .i64 m.fence,.int .i64 (m.E.length:Int)] 3))):=Jh (((KU.refl _ _).alloc _).alloc _)
 have HoW:Hid (OwnB (((w.alloc (.cells #[.int .i64 m.gen,.int .i64 m.cut,.int .i64 m.fence,.slice AE m.E.length cE,.slice AM m.M.length cM,.slice AO m.O.length cO] 53)).alloc (.cells #[.int .u8 77,.int .u8 65,.int .u8 78,.int .u8 73,.int .u8 1] 5 (5,6))).alloc (.cells #[.int .i64 m.gen,.int .i64 m.cut,.int .i64 m.fence,.int .i64 (m.E.length:Int)] 3)) w.heap.size (some ⟨w.heap.size+1,0,none⟩) 5 head5):=Jh (by
  have:=(head_own (w.alloc (.cells #[.int .i64 m.gen,.int .i64 m.cut,.int .i64 m.fence,.slice AE m.E.length cE,.slice AM m.M.length cM,.slice AO m.O.length cO] 53)) (base:=w.heap.size) (by simp) (fr:=(5,6))).below ((Below.refl _ _).alloc (Nat.le_refl _) (.cells #[.int .i64 m.gen,.int .i64 m.cut,.int .i64 m.fence,.int .i64 (m.E.length:Int)] 3))
  simpa using this)
 go_enter Tryz.func19,Tryz.ntmps19
 go_wp2_with fail
 refine (u_calls _ (l:=head5) (base:=w.heap.size) HoW.out (nums_built1 (L:=[m.gen,m.cut,m.fence,(m.E.length:Int)]) _ (by simp) rfl) HIn.out.f4 (Nat.succ_pos _) (by show 5+10*4≤_;omega) (by simp;omega)).mono ?_
 rintro e W2 ⟨A2,c2,rfl,hown2,hbel2,hku2⟩
 generalize w.alloc (.cells #[.int .i64 m.gen,.int .i64 m.cut,.int .i64 m.fence,.slice AE m.E.length cE,.slice AM m.M.length cM,.slice AO m.O.length cO] 53)=w1 at *
 rw [← preE_0] at hown2 ⊢
 have Hst:Hid (OwnB W2 w.heap.size A2 c2 (preE m 0))∧Hid (Below w.heap.size w W2)∧Hid (KU none w1 W2):=⟨Jh (.inl hown2),Jh (HbW.out.trans hbel2),Jh (HkW.out.trans hku2)⟩
 clear hown2 hbel2 hku2 HbW HkW HoW kc
 obtain ⟨y0,y1,y2,y3,y4,y5⟩:=HK.out _ Hst.2.2.out
 go_wp2
 clear y0 y1 y2 y3 y4 y5
 go_loopw [3,26] (fun v i wr=>∃ (j:Nat) (A':Option Addr) (c':Nat),j≤m.E.length∧i=.int .i64 (j:Int)∧v=.slice A' (preE m j).length c'∧Hid (OwnB wr w.heap.size A' c' (preE m j))∧Hid (Below w.heap.size w wr)∧Hid (KU none w1 wr)) (fun _ i _=>m.E.length-(intOf i).toNat)
 case atStart=>exact ⟨0,_,_,Nat.zero_le _,rfl,rfl,Hst.1,Hst.2.1,Hst.2.2⟩
 case round =>
  clear Hst
  obtain ⟨j,A',c',hj,rfl,rfl,Hown,HbR,HkR⟩:=hrel
  by_cases hlt:j<m.E.length
  ·have hr:=(HR.out wr HbR.out).re
   obtain ⟨b,off,rfl,hbB⟩:=row_addr hr (by omega)
   obtain ⟨p0,p1,p2,p3,p4,p5,p6,p7,p8⟩:wr.cell? ⟨b,off+j*9,none⟩=some (.string (gt m.E j).key)∧wr.cell? ⟨b,off+j*9+1,none⟩=some (.int .i64 (gt m.E j).window)∧wr.cell? ⟨b,off+j*9+2,none⟩=some (.string (gt m.E j).part)∧wr.cell? ⟨b,off+j*9+3,none⟩=some (.int .i64 (gt m.E j).first)∧wr.cell? ⟨b,off+j*9+4,none⟩=some (.int .i64 (gt m.E j).last)∧wr.cell? ⟨b,off+j*9+5,none⟩=some (.int .i64 (gt m.E j).rows)∧wr.cell? ⟨b,off+j*9+6,none⟩=some (.int .i64 (gt m.E j).size)∧wr.cell? ⟨b,off+j*9+7,none⟩=some (.int .u32 (gt m.E j).sum)∧wr.cell? ⟨b,off+j*9+8,none⟩=some (.int .i64 (gt m.E j).born):=⟨row_cell ecs_len hr hlt (j:=0) rfl,row_cell ecs_len hr hlt (j:=1) rfl,row_cell ecs_len hr hlt (j:=2) rfl,row_cell ecs_len hr hlt (j:=3) rfl,row_cell ecs_len hr hlt (j:=4) rfl,row_cell ecs_len hr hlt (j:=5) rfl,row_cell ecs_len hr hlt (j:=6) rfl,row_cell ecs_len hr hlt (j:=7) rfl,row_cell ecs_len hr hlt (j:=8) rfl⟩
   have HX:=Jh (HIn.out.E _ (gt_mem hlt))
   have HS:Hid (preE m (j+1)=preE m j++encE (gt m.E j)):=Jh (preE_s hlt)
   have HL:=Jh (preE_len HIn.out j)
   have hszr:w.heap.size≤wr.heap.size:=HbR.out.size
   have HBk:=Jh (Blk.new wr 85 #[.string (gt m.E j).key,.int .i64 (gt m.E j).window,.string (gt m.E j).part,.int .i64 (gt m.E j).first,.int .i64 (gt m.E j).last,.int .i64 (gt m.E j).rows,.int .i64 (gt m.E j).size,.int .u32 (gt m.E j).sum,.int .i64 (gt m.E j).born])
   have hbW:=(Below.refl wr.heap.size wr).alloc (Nat.le_refl _) (.cells #[.string (gt m.E j).key,.int .i64 (gt m.E j).window,.string (gt m.E j).part,.int .i64 (gt m.E j).first,.int .i64 (gt m.E j).last,.int .i64 (gt m.E j).rows,.int .i64 (gt m.E j).size,.int .u32 (gt m.E j).sum,.int .i64 (gt m.E j).born] 85)
   have HO:Hid (∀ W,Below (wr.heap.size+1) (wr.alloc (.cells #[.string (gt m.E j).key,.int .i64 (gt m.E j).window,.string (gt m.E j).part,.int .i64 (gt m.E j).first,.int .i64 (gt m.E j).last,.int .i64 (gt m.E j).rows,.int .i64 (gt m.E j).size,.int .u32 (gt m.E j).sum,.int .i64 (gt m.E j).born] 85)) W→OwnB W w.heap.size A' c' (preE m j)):=Jh fun W hW=>(Hown.out.below hbW).below (by simpa using hW)
   have HB1:Hid (∀ W,Below w.heap.size (wr.alloc (.cells #[.string (gt m.E j).key,.int .i64 (gt m.E j).window,.string (gt m.E j).part,.int .i64 (gt m.E j).first,.int .i64 (gt m.E j).last,.int .i64 (gt m.E j).rows,.int .i64 (gt m.E j).size,.int .u32 (gt m.E j).sum,.int .i64 (gt m.E j).born] 85)) W→Below w.heap.size w W):=Jh fun W hW=>(HbR.out.trans (hbW.mono hszr)).trans hW
   have HK1:Hid (∀ W,KU none (wr.alloc (.cells #[.string (gt m.E j).key,.int .i64 (gt m.E j).window,.string (gt m.E j).part,.int .i64 (gt m.E j).first,.int .i64 (gt m.E j).last,.int .i64 (gt m.E j).rows,.int .i64 (gt m.E j).size,.int .u32 (gt m.E j).sum,.int .i64 (gt m.E j).born] 85)) W→KU none w1 W):=Jh fun W hW=>(HkR.out.trans (KU.below hbW)).trans hW
   have HC:Hid (∀ W,KU none (wr.alloc (.cells #[.string (gt m.E j).key,.int .i64 (gt m.E j).window,.string (gt m.E j).part,.int .i64 (gt m.E j).first,.int .i64 (gt m.E j).last,.int .i64 (gt m.E j).rows,.int .i64 (gt m.E j).size,.int .u32 (gt m.E j).sum,.int .i64 (gt m.E j).born] 85)) W→W.cell? ⟨wr.heap.size,0,none⟩=some (.string (gt m.E j).key)∧W.cell? ⟨wr.heap.size,1,none⟩=some (.int .i64 (gt m.E j).window)∧W.cell? ⟨wr.heap.size,2,none⟩=some (.string (gt m.E j).part)∧W.cell? ⟨wr.heap.size,3,none⟩=some (.int .i64 (gt m.E j).first)∧W.cell? ⟨wr.heap.size,4,none⟩=some (.int .i64 (gt m.E j).last)∧W.cell? ⟨wr.heap.size,5,none⟩=some (.int .i64 (gt m.E j).rows)∧W.cell? ⟨wr.heap.size,6,none⟩=some (.int .i64 (gt m.E j).size)∧W.cell? ⟨wr.heap.size,7,none⟩=some (.int .u32 (gt m.E j).sum)∧W.cell? ⟨wr.heap.size,8,none⟩=some (.int .i64 (gt m.E j).born)):=Jh fun W hW=>by
    have h1:=hW.blk HBk.out (by decide) (by simp)
    exact ⟨h1.cell 0,h1.cell 1,h1.cell 2,h1.cell 3,h1.cell 4,h1.cell 5,h1.cell 6,h1.cell 7,h1.cell 8⟩
   have hsz1:(wr.alloc (.cells #[.string (gt m.E j).key,.int .i64 (gt m.E j).window,.string (gt m.E j).part,.int .i64 (gt m.E j).first,.int .i64 (gt m.E j).last,.int .i64 (gt m.E j).rows,.int .i64 (gt m.E j).size,.int .u32 (gt m.E j).sum,.int .i64 (gt m.E j).born] 85)).heap.size=wr.heap.size+1:=by simp
   clear hr hbB Hown HbR HkR hbW HBk
   generalize gt m.E j=x at *
   generalize preE m j=pre at *
   go_wp2_with fail
   generalize hwb:wr.alloc (.cells #[.string x.key,.int .i64 x.window,.string x.part,.int .i64 x.first,.int .i64 x.last,.int .i64 x.rows,.int .i64 x.size,.int .u32 x.sum,.int .i64 x.born] 85)=wb at *
   have hszb:w.heap.size≤wb.heap.size:=by omega
   clear hwb p0 p1 p2 p3 p4 p5 p6 p7 p8
   have HB00:=Jh (Below.refl wb.heap.size wb)
   have HO0:Hid (∀ W,Below wb.heap.size wb W→OwnB W w.heap.size A' c' pre):=Jh fun W hW=>HO.out W (by rw [← hsz1];exact hW)
   have HKb0:Hid (∀ W,Below wb.heap.size wb W→KU none wb W):=Jh fun W hW=>KU.below hW
   clear HO
   have Hkeep:Hid (∀ W,KU none wb W→W.cell? ⟨wr.heap.size,0,none⟩=some (.string x.key)):=Jh fun W hW=>(HC.out W hW).1
   go_region_held3 (fun w'=>w'.cell? ⟨wr.heap.size,0,none⟩=some (.string x.key)) (exact Hkeep.out _ (by first|assumption|exact HKb0.out _ (below_drewN_ (Below.refl _ _) 1)|exact HKb0.out _ ((below_drewN_ (Below.refl _ _) 1).alloc (Nat.le_refl _) _))) (first
    | (go_at_call 39;have hbd:=(below_drewN_ (Below.refl wb.heap.size wb) 1).alloc (Nat.le_refl _) (.cells #[.int .i64 (x.key.size:Int)] 3);refine (u_calls _ (base:=w.heap.size) (HO0.out _ hbd) (nums_built1 (L:=[(x.key.size:Int)]) _ (by simp;omega) rfl) HX.out.f1 (Nat.succ_pos _) (by have:=HL.out;simp only [List.length_cons,List.length_nil];omega) (by simp;omega)).mono ?_;rintro e W2 ⟨A2,c2,rfl,hown2,hbel2,hku2⟩;have hl2:(pre++us [(x.key.size:Int)]).length≤296010:=us_lenR HX.out.f1 HL.out;generalize hp1:pre++us [(x.key.size:Int)]=q1 at *;have Hp1:=Jh hp1;clear hp1;have hk2:KU none wb W2:=(HKb0.out _ hbd).trans hku2;have hb2:Below w.heap.size wb W2:=(hbd.mono hszb).trans hbel2;have hs2:w.heap.size≤W2.heap.size:=Nat.le_trans hszb hb2.size)
    | (refine step_append_str rfl (.tmp 35) (.tmp 37) _ _ rfl w.heap.size 5 Tryz.underlying33 Tryz.underlying9 Nu.Tryz.infoU8 rfl hown2 rfl (by have:=HX.out.key;omega) hs2 ?_;intro A3 c3 W3 hown3 hgr3;have hk3:KU none wb W3:=hk2.trans (KU.grown hgr3 hown2);have hb3:Below w.heap.size wb W3:=hb2.trans ((Below.refl _ _).grown hgr3 hs2 (fun k hk=>(hown2.lt k hk).1));generalize hp2:q1++x.key.data.toList=q2 at *;have Hp2:=Jh hp2;clear hp2))
   have HL3:Hid (q2.length≤296050):=Jh (by rw [← Hp2.out];have:=str_lenR (s:=x.key) hl2;have:=HX.out.key;omega)
   have HO3:Hid (∀ W,Below W3.heap.size W3 W→OwnB W w.heap.size A3 c3 q2):=Jh fun W hW=>(OwnB.below (.inl hown3) hW)
   have HK3:Hid (∀ W,KU none W3 W→KU none wb W):=Jh fun W hW=>hk3.trans hW
   have HB3:Hid (∀ W,Below w.heap.size W3 W→Below w.heap.size wb W):=Jh fun W hW=>hb3.trans hW
   have HKb3:Hid (∀ W,Below W3.heap.size W3 W→KU none W3 W):=Jh fun W hW=>KU.below hW
   have hs3:w.heap.size≤W3.heap.size:=Nat.le_trans hszb hb3.size
   clear hown2 hbel2 hku2 hl2 hk2 hb2 hs2 hown3 hgr3 hk3 hb3 HO0 HKb0 Hkeep HB00 HL
   have Hkeep:Hid (∀ W,KU none W3 W→W.cell? ⟨wr.heap.size,1,none⟩=some (.int .i64 x.window)∧W.cell? ⟨wr.heap.size,2,none⟩=some (.string x.part)):=Jh fun W hW=>⟨(HC.out W (HK3.out W hW)).2.1,(HC.out W (HK3.out W hW)).2.2.1⟩
   have ho3:wr.heap.size<W3.heap.size:=World.block_lt_of_cell? W3 _ (Hkeep.out W3 (KU.refl _ _)).1
   go_wp2_with fail
   go_region_held3 (fun w'=>w'.cell? ⟨wr.heap.size,1,none⟩=some (.int .i64 x.window)∧w'.cell? ⟨wr.heap.size,2,none⟩=some (.string x.part)) (exact Hkeep.out _ (by first|assumption|exact HKb3.out _ (below_drewN_ (Below.refl _ _) 1)|exact HKb3.out _ ((below_drewN_ (Below.refl _ _) 1).alloc (Nat.le_refl _) _))) (first
    | (go_at_call 39;have hbd:=(below_drewN_ (Below.refl W3.heap.size W3) 1).alloc (Nat.le_refl _) (.cells #[.int .i64 x.window,.int .i64 (x.part.size:Int)] 3);refine (u_calls _ (base:=w.heap.size) (HO3.out _ hbd) (nums_built1 (L:=[x.window,(x.part.size:Int)]) _ (by simp) rfl) HX.out.f2 (Nat.succ_pos _) (by have:=HL3.out;simp only [List.length_cons,List.length_nil];omega) (by simp;omega)).mono ?_;rintro e W2 ⟨A2,c2,rfl,hown2,hbel2,hku2⟩;have hl2:(q2++us [x.window,(x.part.size:Int)]).length≤296070:=us_lenR HX.out.f2 HL3.out;generalize hp3:q2++us [x.window,(x.part.size:Int)]=q3 at *;have Hp3:=Jh hp3;clear hp3;have hk2:KU none W3 W2:=(HKb3.out _ hbd).trans hku2;have hb2:Below w.heap.size W3 W2:=(hbd.mono hs3).trans hbel2;have hs2:w.heap.size≤W2.heap.size:=Nat.le_trans hs3 hb2.size)
    | (refine step_append_str rfl (.tmp 46) (.tmp 48) _ _ rfl w.heap.size 5 Tryz.underlying33 Tryz.underlying9 Nu.Tryz.infoU8 rfl hown2 rfl (by have:=HX.out.part;omega) hs2 ?_;intro A5 c5 W5 hown5 hgr5;have hk5':KU none W3 W5:=hk2.trans (KU.grown hgr5 hown2);have hk5:KU none wb W5:=HK3.out _ hk5';have hb5:Below w.heap.size wb W5:=HB3.out _ (hb2.trans ((Below.refl _ _).grown hgr5 hs2 (fun k hk=>(hown2.lt k hk).1)));generalize hp4:q3++x.part.data.toList=q4 at *;have Hp4:=Jh hp4;clear hp4))
   have HL5:Hid (q4.length≤297100):=Jh (by rw [← Hp4.out];have:=str_lenR (s:=x.part) hl2;have:=HX.out.part;omega)
   have Hown5:=Jh hown5
   have hs5:w.heap.size≤W5.heap.size:=Nat.le_trans hszb hb5.size
   have HF6:=Jh HX.out.f6
   have hsum:IntKind.i64.wrap x.sum=x.sum:=wrap_i64 HX.out.sum.1 HX.out.sum.2
   obtain ⟨z0,z1,z2,z3,z4,z5,z6,z7,z8⟩:=HC.out W5 hk5
   clear hown2 hbel2 hku2 hl2 hk2 hb2 hs2 hown5 hgr5 hk5' HO3 HK3 HB3 HKb3 Hkeep ho3 HX
   go_wp2_with fail
   have hbd:=(Below.refl W5.heap.size W5).alloc (Nat.le_refl _) (.cells #[.int .i64 x.first,.int .i64 x.last,.int .i64 x.rows,.int .i64 x.size,.int .i64 x.sum,.int .i64 x.born] 3)
   refine (u_calls _ (base:=w.heap.size) (OwnB.below (.inl Hown5.out) hbd) (nums_built1 (L:=[x.first,x.last,x.rows,x.size,x.sum,x.born]) _ rfl rfl) HF6.out (Nat.succ_pos _) (by have:=HL5.out;simp only [List.length_cons,List.length_nil];omega) (by simp;omega)).mono ?_
   rintro e W6 ⟨A6,c6,rfl,hown6,hbel6,hku6⟩
   have hb6:Below w.heap.size w W6:=HB1.out _ ((hb5.trans (hbd.mono hs5)).trans hbel6)
   have hk6:KU none w1 W6:=HK1.out _ ((hk5.trans (KU.below hbd)).trans hku6)
   have hq:q4++us [x.first,x.last,x.rows,x.size,x.sum,x.born]=preE m (j+1):=by rw [HS.out,← Hp4.out,← Hp3.out,← Hp2.out,← Hp1.out,ent_bytes]
   rw [hq] at hown6 ⊢
   have HO6:Hid (OwnB W6 w.heap.size A6 c6 (preE m (j+1))):=Jh (.inl hown6)
   have HB6:=Jh hb6
   have HK6:=Jh hk6
   clear hown6 hbel6 hku6 hb6 hk6 hq hbd HL5 Hown5 HF6 HL3 HS HC HB1 HK1 Hp1 Hp2 Hp3 Hp4 hk5 hb5 z0 z1 z2 z3 z4 z5 z6 z7 z8
   go_wp2
   go_roundw
   case rel=>exact ⟨j+1,A6,c6,by omega,by go_num,rfl,HO6,HB6,HK6⟩
   case measure=>simp [intOf];omega
  obtain rfl:j=m.E.length:=by omega
  have hszr:w.heap.size≤wr.heap.size:=HbR.out.size
  have HL:=Jh (preE_len HIn.out m.E.length)
  have HEn:Hid (preE m m.E.length++us [(m.M.length:Int)]=preM m 0):=Jh (preM_0 m).symm
  obtain ⟨y0,y1,y2,y3,y4,y5⟩:=HK.out _ HkR.out
  have hlen:m.M.length≤17592186044416:=HLM.out
  generalize preE m m.E.length=pre at *
  go_wp2_with fail
  have hbW:=(Below.refl wr.heap.size wr).alloc (Nat.le_refl _) (.cells #[.int .i64 (m.M.length:Int)] 3)
  refine (u_calls _ (base:=w.heap.size) (Hown.out.below hbW) (nums_built1 (L:=[(m.M.length:Int)]) _ (by simp) rfl) HIn.out.fm (Nat.succ_pos _) (by have:=HL.out;simp only [List.length_cons,List.length_nil];omega) (by simp;omega)).mono ?_
  rintro e W2 ⟨A2,c2,rfl,hown2,hbel2,hku2⟩
  have HB2:=Jh ((HbR.out.trans (hbW.mono hszr)).trans hbel2)
  have HK2:=Jh ((HkR.out.trans (KU.below hbW)).trans hku2)
  rw [HEn.out] at hown2 ⊢
  have Hst:Hid (OwnB W2 w.heap.size A2 c2 (preM m 0))∧Hid (Below w.heap.size w W2)∧Hid (KU none w1 W2):=⟨Jh (.inl hown2),HB2,HK2⟩
  clear hown2 hbel2 hku2 hbW HL HEn Hown HbR HkR HB2 HK2 y0 y1 y2 y3 y4 y5
  have hz:=HK.out _ Hst.2.2.out
  obtain ⟨y0,y1,y2,y3,y4,y5⟩:=hz
  go_wp2
  clear y0 y1 y2 y3 y4 y5
  go_loopw [3,76] (fun v i wr=>∃ (j:Nat) (A':Option Addr) (c':Nat),j≤m.M.length∧i=.int .i64 (j:Int)∧v=.slice A' (preM m j).length c'∧Hid (OwnB wr w.heap.size A' c' (preM m j))∧Hid (Below w.heap.size w wr)∧Hid (KU none w1 wr)) (fun _ i _=>m.M.length-(intOf i).toNat)
  case atStart=>exact ⟨0,_,_,Nat.zero_le _,rfl,rfl,Hst.1,Hst.2.1,Hst.2.2⟩
  case round =>
   clear Hst
   obtain ⟨j,A',c',hj,rfl,rfl,Hown,HbR,HkR⟩:=hrel
   by_cases hlt:j<m.M.length
   ·have hr:=(HR.out wr HbR.out).rm
    obtain ⟨b,off,rfl,hbB⟩:=row_addr hr (by omega)
    obtain ⟨p0,p1⟩:wr.cell? ⟨b,off+j*2,none⟩=some (.int .i64 (gt m.M j).maker)∧wr.cell? ⟨b,off+j*2+1,none⟩=some (.int .i64 (gt m.M j).seq):=⟨row_cell mcs_len hr hlt (j:=0) rfl,row_cell mcs_len hr hlt (j:=1) rfl⟩
    have HF:=Jh (HIn.out.fK (gt_mem hlt))
    have HS:Hid (preM m (j+1)=_):=Jh (preM_s hlt)
    have HL:=Jh (preM_len HIn.out j)
    have hszr:w.heap.size≤wr.heap.size:=HbR.out.size
    have HO:Hid (∀ W,Below wr.heap.size wr W→OwnB W w.heap.size A' c' (preM m j)):=Jh fun W hW=>Hown.out.below hW
    have HB1:Hid (∀ W,Below wr.heap.size wr W→Below w.heap.size w W):=Jh fun W hW=>HbR.out.trans (hW.mono hszr)
    have HK1:Hid (∀ W,Below wr.heap.size wr W→KU none w1 W):=Jh fun W hW=>HkR.out.trans (KU.below hW)
    clear hr hbB Hown HbR HkR
    generalize gt m.M j=x at *
    generalize preM m j=pre at *
    go_wp2_with fail
    have hbW:=((Below.refl wr.heap.size wr).alloc (Nat.le_refl _) (.cells #[.int .i64 x.maker,.int .i64 x.seq] 90)).alloc (show wr.heap.size≤(wr.alloc (.cells #[.int .i64 x.maker,.int .i64 x.seq] 90)).heap.size by simp) (.cells #[.int .i64 x.maker,.int .i64 x.seq] 3)
    refine (u_calls _ (base:=w.heap.size) (HO.out _ hbW) (nums_built1 (L:=[x.maker,x.seq]) _ (by simp) rfl) HF.out (Nat.succ_pos _) (by have:=HL.out;simp only [List.length_cons,List.length_nil];omega) (by simp;omega)).mono ?_
    rintro e W2 ⟨A2,c2,rfl,hown2,hbel2,hku2⟩
    have HB2:=Jh ((HB1.out _ hbW).trans hbel2)
    have HK2:=Jh ((HK1.out _ hbW).trans hku2)
    rw [← HS.out] at hown2 ⊢
    have HO2:Hid (OwnB W2 w.heap.size A2 c2 (preM m (j+1))):=Jh (.inl hown2)
    clear hown2 hbel2 hku2 hbW HS HL HO HB1 HK1 HF
    go_wp2
    go_roundw
    case rel=>exact ⟨j+1,A2,c2,by omega,by go_num,rfl,HO2,HB2,HK2⟩
    case measure=>simp [intOf];omega
   obtain rfl:j=m.M.length:=by omega
   have hszr:w.heap.size≤wr.heap.size:=HbR.out.size
   have HL:=Jh (preM_len HIn.out m.M.length)
   have HEn:Hid (preM m m.M.length++us [(m.O.length:Int)]=preO m 0):=Jh (preO_0 m).symm
   obtain ⟨y0,y1,y2,y3,y4,y5⟩:=HK.out _ HkR.out
   have hlen:m.O.length≤17592186044416:=HLO.out
   generalize preM m m.M.length=pre at *
   go_wp2_with fail
   have hbW:=(Below.refl wr.heap.size wr).alloc (Nat.le_refl _) (.cells #[.int .i64 (m.O.length:Int)] 3)
   refine (u_calls _ (base:=w.heap.size) (Hown.out.below hbW) (nums_built1 (L:=[(m.O.length:Int)]) _ (by simp) rfl) HIn.out.fo (Nat.succ_pos _) (by have:=HL.out;simp only [List.length_cons,List.length_nil];omega) (by simp;omega)).mono ?_
   rintro e W2 ⟨A2,c2,rfl,hown2,hbel2,hku2⟩
   have HB2:=Jh ((HbR.out.trans (hbW.mono hszr)).trans hbel2)
   have HK2:=Jh ((HkR.out.trans (KU.below hbW)).trans hku2)
   rw [HEn.out] at hown2 ⊢
   have Hst:Hid (OwnB W2 w.heap.size A2 c2 (preO m 0))∧Hid (Below w.heap.size w W2)∧Hid (KU none w1 W2):=⟨Jh (.inl hown2),HB2,HK2⟩
   clear hown2 hbel2 hku2 hbW HL HEn Hown HbR HkR HB2 HK2 y0 y1 y2 y3 y4 y5
   have hz:=HK.out _ Hst.2.2.out
   obtain ⟨y0,y1,y2,y3,y4,y5⟩:=hz
   go_wp2
   clear y0 y1 y2 y3 y4 y5
   go_loopw [3,97] (fun v i wr=>∃ (j:Nat) (A':Option Addr) (c':Nat),j≤m.O.length∧i=.int .i64 (j:Int)∧v=.slice A' (preO m j).length c'∧Hid (OwnB wr w.heap.size A' c' (preO m j))∧Hid (Below w.heap.size w wr)∧Hid (KU none w1 wr)) (fun _ i _=>m.O.length-(intOf i).toNat)
   case atStart=>exact ⟨0,_,_,Nat.zero_le _,rfl,rfl,Hst.1,Hst.2.1,Hst.2.2⟩
   case round =>
    clear Hst
    obtain ⟨j,A',c',hj,rfl,rfl,Hown,HbR,HkR⟩:=hrel
    by_cases hlt:j<m.O.length
    ·have hr:=(HR.out wr HbR.out).ro
     obtain ⟨b,off,rfl,hbB⟩:=row_addr hr (by omega)
     obtain ⟨p0,p1,p2⟩:wr.cell? ⟨b,off+j*3,none⟩=some (.int .i64 (gt m.O j).agent)∧wr.cell? ⟨b,off+j*3+1,none⟩=some (.int .i64 (gt m.O j).life)∧wr.cell? ⟨b,off+j*3+2,none⟩=some (.int .i64 (gt m.O j).count):=⟨row_cell ocs_len hr hlt (j:=0) rfl,row_cell ocs_len hr hlt (j:=1) rfl,row_cell ocs_len hr hlt (j:=2) rfl⟩
     have HF:=Jh (HIn.out.fO (gt_mem hlt))
     have HS:Hid (preO m (j+1)=_):=Jh (preO_s hlt)
     have HL:=Jh (preO_len HIn.out j)
     have hszr:w.heap.size≤wr.heap.size:=HbR.out.size
     have HO:Hid (∀ W,Below wr.heap.size wr W→OwnB W w.heap.size A' c' (preO m j)):=Jh fun W hW=>Hown.out.below hW
     have HB1:Hid (∀ W,Below wr.heap.size wr W→Below w.heap.size w W):=Jh fun W hW=>HbR.out.trans (hW.mono hszr)
     have HK1:Hid (∀ W,Below wr.heap.size wr W→KU none w1 W):=Jh fun W hW=>HkR.out.trans (KU.below hW)
     clear hr hbB Hown HbR HkR
     generalize gt m.O j=x at *
     generalize preO m j=pre at *
     go_wp2_with fail
     have hbW:=((Below.refl wr.heap.size wr).alloc (Nat.le_refl _) (.cells #[.int .i64 x.agent,.int .i64 x.life,.int .i64 x.count] 26)).alloc (show wr.heap.size≤(wr.alloc (.cells #[.int .i64 x.agent,.int .i64 x.life,.int .i64 x.count] 26)).heap.size by simp) (.cells #[.int .i64 x.agent,.int .i64 x.life,.int .i64 x.count] 3)
     refine (u_calls _ (base:=w.heap.size) (HO.out _ hbW) (nums_built1 (L:=[x.agent,x.life,x.count]) _ (by simp) rfl) HF.out (Nat.succ_pos _) (by have:=HL.out;simp only [List.length_cons,List.length_nil];omega) (by simp;omega)).mono ?_
     rintro e W2 ⟨A2,c2,rfl,hown2,hbel2,hku2⟩
     have HB2:=Jh ((HB1.out _ hbW).trans hbel2)
     have HK2:=Jh ((HK1.out _ hbW).trans hku2)
     rw [← HS.out] at hown2 ⊢
     have HO2:Hid (OwnB W2 w.heap.size A2 c2 (preO m (j+1))):=Jh (.inl hown2)
     clear hown2 hbel2 hku2 hbW HS HL HO HB1 HK1 HF
     go_wp2
     go_roundw
     case rel=>exact ⟨j+1,A2,c2,by omega,by go_num,rfl,HO2,HB2,HK2⟩
     case measure=>simp [intOf];omega
    obtain rfl:j=m.O.length:=by omega
    have hszr:w.heap.size≤wr.heap.size:=HbR.out.size
    have HL:=Jh (preO_len HIn.out m.O.length)
    have HEn:=Jh (preO_all m)
    have hby:=Hown.out.bytes
    rw [HEn.out] at HL hby ⊢
    have hbr:=HbR.out
    clear Hown HkR HK HR HIn HbR HEn
    have hbm:Hid (encB m=Cr.cseal (encT m)):=Jh rfl
    generalize encT m=T at *
    go_wp2_with fail
    refine (Cr.sealR_calls wr hby (Nat.le_refl _) (by have:=HL.out;omega)).mono ?_
    rintro e W7 hret
    obtain ⟨v,rfl,hown7,hbel7⟩:=hret
    have hown8:=own_base hown7 hszr
    have hbel8:=hbr.trans (hbel7.mono hszr)
    clear hown7 hbel7 hby hbr
    go_wp2
    go_ret
    exact ⟨v,rfl,by rw [hbm.out];exact hown8,hbel8⟩
end Go.Proofs.YtibnehaibgbliaaGreat.Mf
