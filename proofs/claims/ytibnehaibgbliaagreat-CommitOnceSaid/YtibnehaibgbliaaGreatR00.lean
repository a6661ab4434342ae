/- Laws for the row's walk. -/
import Derived.WalkKit
import Derived.Lib.Hide
import Derived.WalkSpells
import Derived.WalkLawsBesides
import Derived.Deep.DeepFit
import Derived.Deep.DeepCutAuto
import Derived.Deep.CutBlock
import Derived.Deep.LoopGhost
import Derived.BigQuiet
import Derived.Deep.QuietTactic
import Derived.Deep.RegionWith
import Derived.Deep.RegionHeld3
import Derived.StillTailTactics
import Derived.Maps.AppendAt
import Derived.Deep.AppendLies
import Derived.Deep.Draws
import Derived.Laws.BytesArg
import Derived.ProofKit
import Derived.OpenShut
import Derived.ShutString
import Derived.SizedLaws
import Derived.Deep.Slices
import Derived.Deep.Fields
import Derived.Test.YtibnehaibgbliaaGreatProg
import Derived.Lib.SmallJoins
import Derived.IntWalk
import Derived.Sort.Walk0
set_option linter.unusedVariables false
set_option linter.unusedSimpArgs false
open Go.Lib renaming hid → Jh
namespace Go.Proofs.YtibnehaibgbliaaGreat
open Go.RowKit
def Reads (w:World) (B size:Nat) (A:Option Addr) (n:Nat) (xs:List Value):Prop :=
 xs.length=n*size∧(0<n→∃ b off,A=some ⟨b,off,none⟩∧b<B∧∀ j u,xs[j]?=some u→w.cell? ⟨b,off+j,none⟩=some u)
theorem addr_add (b off k:Nat):(⟨b,off,none⟩:Addr).add k=⟨b,off+k,none⟩:=by unfold Addr.add;split<;>simp_all
section
variable {w w':World} {B B' size n:Nat} {A:Option Addr} {xs:List Value}
theorem Reads.none_:Reads w B size A 0 []:=⟨by simp,fun h=>absurd h (by omega)⟩
theorem Reads.keep (h:Reads w B size A n xs) (hk:∀ p:Addr,p.block<B→w'.cell? p=w.cell? p):Reads w' B size A n xs :=
 ⟨h.1,fun hn=>by
  obtain ⟨b,off,e,hb,hc⟩:=h.2 hn
  exact ⟨b,off,e,hb,fun j u hu=>(hk _ hb).trans (hc j u hu)⟩⟩
theorem Reads.more (h:Reads w B size A n xs) (hB:B≤B'):Reads w B' size A n xs :=
 ⟨h.1,fun hn=>by
  obtain ⟨b,off,e,hb,hc⟩:=h.2 hn
  exact ⟨b,off,e,by omega,hc⟩⟩
theorem Reads.below (h:Reads w B size A n xs) (hb:Below B w w'):Reads w' B size A n xs:=h.keep fun _ hp=>hb.cell hp
theorem Reads.to (h:Reads w B size A n xs) (hb:Below B w w') (hB:B≤B'):Reads w' B' size A n xs:=(h.below hb).more hB
theorem Reads.alloc (h:Reads w B size A n xs) (hB:B≤w.heap.size) (o:Obj):Reads (w.alloc o) B size A n xs:=h.keep fun p hp=>World.cell?_alloc_lt w o p (by omega)
theorem Reads.cut (h:Reads w B size A n xs) {k cap:Nat} (hk:k≤n) (hc:n≤cap) :
  Reads w B size (if cap=k then A else A.map (·.add (k*size))) (n-k) (xs.drop (k*size)):=by
 refine ⟨by rw [List.length_drop,h.1,Nat.sub_mul],fun hn=>?_⟩
 obtain ⟨b,off,rfl,hb,hcell⟩:=h.2 (by omega)
 rw [if_neg (by omega)]
 refine ⟨b,off+k*size,by simp [addr_add],hb,fun j u hu=>?_⟩
 rw [Nat.add_assoc]
 exact hcell _ u (by rw [← hu,List.getElem?_drop])
theorem Reads.take (h:Reads w B size A n xs) {k:Nat} (hk:k≤n):Reads w B size A k (xs.take (k*size)):=by
 have hl:=h.1
 have hle:k*size≤n*size:=Nat.mul_le_mul_right _ hk
 refine ⟨by rw [List.length_take,hl];omega,fun hn=>?_⟩
 obtain ⟨b,off,rfl,hb,hcell⟩:=h.2 (by omega)
 refine ⟨b,off,rfl,hb,fun j u hu=>hcell j u ?_⟩
 rw [List.getElem?_take] at hu
 split at hu
 ·exact hu
 ·cases hu
theorem Reads.made (w:World) (cs:Array Value) (t:TypeId) (hn:cs.toList.length=n*size):Reads (w.alloc (.cells cs t)) (w.heap.size+1) size (some ⟨w.heap.size,0,none⟩) n cs.toList :=
 ⟨hn,fun _=>⟨_,0,rfl,by omega,fun j u hu=>by
  rw [Nat.zero_add,cell_of_row _ _ j cs t (0,0) (heap_alloc_new w _)]
  simpa using hu⟩⟩
theorem Reads.of_own {base:Nat} {e:TypeId} {c:Nat} (h:w.ownsRow base e size (.slice A n c) n xs):Reads w w.heap.size size A n xs:=by
 refine ⟨h.1,fun hn=>?_⟩
 obtain ⟨g,cap,hv,_,hlt⟩:=h.form hn
 have hA:A=some ⟨g,0,none⟩:=by injection hv
 subst hA
 refine ⟨g,0,rfl,hlt,fun j u hu=>?_⟩
 have:=h.cells (g:=g) rfl j u hu
 rwa [addr_add] at this
theorem own_slice {base:Nat} {e:TypeId} {v:Value} (h:w.ownsRow base e size v n xs) :
  ∃ A c,v=.slice A n c∧n≤c∧c≤maxLen∧Reads w w.heap.size size A n xs:=by
 rcases h.2 with ⟨rfl,rfl⟩|⟨g,cap,cur,rfl,hb,hg,hnc,hcm,_⟩
 ·exact ⟨none,0,rfl,Nat.le_refl _,by unfold maxLen;omega,Reads.of_own h⟩
 ·exact ⟨_,cap,rfl,hnc,hcm,Reads.of_own h⟩
end
theorem eqf {a b:Int} (h:a≠b):(a == b)=false:=by simpa using h
theorem eqt {a b:Int} (h:a=b):(a == b)=true:=by simpa using h
theorem nef {a b:Int} (h:a=b):(a != b)=false:=by simpa using h
theorem net {a b:Int} (h:a≠b):(a != b)=true:=by simpa using h
theorem dct {p:Prop} [Decidable p] (h:p):decide p=true:=decide_eq_true h
theorem dcf {p:Prop} [Decidable p] (h:¬ p):decide p=false:=decide_eq_false h
def byteV (b:UInt8):Value:=.int .u8 (b.toNat:Int)
theorem byteV_one (l:List UInt8):∀ u∈l.map byteV,u.oneCell'=true:=by
 intro u hu
 obtain ⟨b,_,rfl⟩:=List.mem_map.1 hu
 rfl
def Bytes (w:World) (B:Nat) (A:Option Addr) (n:Nat) (l:List UInt8):Prop:=l.length=n∧Reads w B 1 A n (l.map byteV)
section
variable {w w':World} {B B' n:Nat} {A:Option Addr} {l:List UInt8}
theorem Bytes.len (h:Bytes w B A n l):l.length=n:=h.1
theorem Bytes.of (h:Reads w B 1 A n (l.map byteV)):Bytes w B A n l:=⟨by have:=h.1;simpa using this,h⟩
theorem Bytes.to (h:Bytes w B A n l) (hb:Below B w w') (hB:B≤B'):Bytes w' B' A n l:=⟨h.1,h.2.to hb hB⟩
theorem Bytes.drew (h:Bytes w B A n l):Bytes w.drew B A n l:=h
theorem Bytes.drewN (h:Bytes w B A n l) (k:Nat):Bytes (w.drewN k) B A n l:=h
theorem Bytes.below (h:Bytes w B A n l) (hb:Below B w w'):Bytes w' B A n l:=⟨h.1,h.2.below hb⟩
theorem Bytes.cell (h:Bytes w B A n l) {i:Nat} (hi:i<n):∃ b off,A=some ⟨b,off,none⟩∧b<B∧∀ j (hj:j<n),w.cell? ⟨b,off+j,none⟩=some (.int .u8 ((l[j]'(by rw [h.1];exact hj)).toNat:Int)):=by
 obtain ⟨b,off,e,hb,hc⟩:=h.2.2 (by omega)
 refine ⟨b,off,e,hb,fun j hj=>hc j _ ?_⟩
 have hl:j<l.length:=by rw [h.1];exact hj
 rw [List.getElem?_map,List.getElem?_eq_getElem hl]
 rfl
theorem Bytes.conv (P:Program) (h:Bytes w B A n l) (c:Nat) (src e dst:TypeId) (hs:P.underlying src=some (.slice e)) (he:P.underlying e=some (.int .u8)) (hd:P.underlying dst=some .string) :
  (convert src dst (.slice A n c)).run P w=.ok (.string ⟨l.toArray⟩) w:=by
 rcases Nat.eq_zero_or_pos n with hn|hn
 ·have hl:l=[]:=List.eq_nil_of_length_eq_zero (by rw [h.1,hn])
  subst hl
  rcases A with _|ad
  ·rw [run_convert_bytes_nil w src e hs he n c dst hd];rfl
  ·rw [run_convert_bytes_string w src dst e _ n c hs he hd,run_bytesToString w _ n c [] (by subst hn;simp [loadCells,loadCellsFrom])]
   rfl
 ·obtain ⟨b,off,rfl,_,hc⟩:=h.cell hn
  have hx:=run_convert_bytes_arg (P:=P) w src e hs he b off n c (l.map fun x=>(x.toNat:Int)) (by simp [h.1]) (fun i hi=>by
   have hl:i<l.length:=by rw [h.1];exact hi
   rw [hc i hi];simp [List.getD,List.getElem?_eq_getElem hl]) dst hd
  rw [hx]
  congr 2
  simp only [strOfNums,List.map_map]
  congr 2
  conv=>rhs;rw [← List.map_id l]
  exact List.map_congr_left fun x _=>by simp
end
def Blk (w:World) (g:Nat) (t:TypeId) (cs:Array Value):Prop:=w.heap[g]?=some (.cells cs t (0,0))
section
variable {w w':World} {g:Nat} {t:TypeId} {cs:Array Value}
theorem Blk.lt (h:Blk w g t cs):g<w.heap.size:=by
 rcases Nat.lt_or_ge g w.heap.size with hlt|hge
 ·exact hlt
 ·unfold Blk at h;rw [Array.getElem?_eq_none hge] at h;cases h
theorem Blk.cell (h:Blk w g t cs) (i:Nat):w.cell? ⟨g,i,none⟩=cs[i]?:=cell_of_row w g i cs t (0,0) h
theorem Blk.frozen (h:Blk w g t cs) (i:Nat):w.frozen? ⟨g,i,none⟩=false:=by
 unfold Blk at h
 simp [World.frozen?,h]
theorem Blk.new (w:World) (t:TypeId) (cs:Array Value):Blk (w.alloc (.cells cs t)) w.heap.size t cs:=heap_alloc_new w _
theorem Blk.drew (h:Blk w g t cs):Blk w.drew g t cs:=h
theorem Blk.drewN (h:Blk w g t cs) (n:Nat):Blk (w.drewN n) g t cs:=h
theorem Blk.alloc (h:Blk w g t cs) (o:Obj):Blk (w.alloc o) g t cs:=(Below.heap_alloc w o g h.lt).trans h
theorem Blk.set_ (h:Blk w g t cs) (i:Nat) (u:Value):Blk (w.setCell ⟨g,i,none⟩ u) g t (cs.setIfInBounds i u):=by
 unfold Blk at h ⊢
 simp [World.setCell,Array.getElem?_modify,h]
theorem Blk.far (h:Blk w g t cs) {p:Addr} (hp:g≠p.block) (u:Value):Blk (w.setCell p u) g t cs:=(Below.heap_setCell w p u g hp).trans h
theorem Blk.below {B:Nat} (h:Blk w g t cs) (hb:Below B w w') (hg:g<B):Blk w' g t cs:=(hb.block g hg).trans h
theorem Blk.grown {row:Option Nat} (h:Blk w g t cs) (hb:w.grownBy w' row) (hg:some g≠row):Blk w' g t cs:=(hb.block g h.lt hg).trans h
theorem Blk.ne_ {g':Nat} {t':TypeId} {cs':Array Value} (h:Blk w g t cs) (h':Blk w g' t' cs') (hne:t≠t'):g≠g':=by
 rintro rfl
 unfold Blk at h h'
 rw [h] at h'
 injection h' with h'
 injection h' with _ ht
 exact hne ht
def Only (g:Nat) (w w':World):Prop:=w.grownBy w' (some g)
theorem Only.refl (g:Nat) (w:World):Only g w w:=World.grownBy.refl w _
theorem Only.trans {a b c:World} (h:Only g a b) (k:Only g b c):Only g a c:=World.grownBy.trans h k
theorem Only.drewN {a:World} (h:Only g a w) (n:Nat):Only g a (w.drewN n):=⟨h.os,h.tape,h.output,h.size,h.block⟩
theorem Only.drew {a:World} (h:Only g a w):Only g a w.drew:=⟨h.os,h.tape,h.output,h.size,h.block⟩
theorem Only.alloc {a:World} (h:Only g a w) (o:Obj):Only g a (w.alloc o) :=
 ⟨h.os,h.tape,h.output,Nat.le_trans h.size (by simp),fun i hi hne=>(Below.heap_alloc w o i (Nat.lt_of_lt_of_le hi h.size)).trans (h.block i hi hne)⟩
theorem Only.setCell {a:World} (h:Only g a w) {p:Addr} (hp:p.block=g∨a.heap.size≤p.block) (u:Value):Only g a (w.setCell p u) :=
 ⟨h.os,h.tape,h.output,by simpa [World.setCell] using h.size,fun i hi hne=>(Below.heap_setCell w p u i (by
  rintro rfl
  rcases hp with hp|hp
  ·exact hne (by rw [hp])
  ·omega)).trans (h.block i hi hne)⟩
theorem Only.of_below {a:World} (h:Below a.heap.size a w):Only g a w:=⟨h.os,h.tape,h.output,h.size,fun i hi _=>h.block i hi⟩
theorem Only.below {B:Nat} {a:World} (h:Only g a w) (hB:B≤g) (hs:B≤a.heap.size):Below B a w :=
 ⟨h.os,h.tape,h.output,h.size,fun i hi=>h.block i (by omega) (fun e=>by injection e with e;omega)⟩
theorem Only.blk {g':Nat} (h:Only g w w') (hb:Blk w g' t cs) (hne:g'≠g):Blk w' g' t cs:=hb.grown h (fun e=>hne (by injection e))
theorem below_drewN_ {B:Nat} {a:World} (h:Below B a w) (n:Nat):Below B a (w.drewN n):=⟨h.os,h.tape,h.output,h.size,h.block⟩
end
theorem Bytes.only {w w':World} {B n g:Nat} {A:Option Addr} {l:List UInt8} (h:Bytes w B A n l) (ho:Only g w w') (hB:B≤g) (hs:B≤w.heap.size):Bytes w' B A n l:=h.below (ho.below hB hs)
theorem Bytes.more {w:World} {B B' n:Nat} {A:Option Addr} {l:List UInt8} (h:Bytes w B A n l) (hB:B≤B'):Bytes w B' A n l:=⟨h.1,h.2.more hB⟩
section
variable {P:Program} (w:World)
theorem wpList_push {ops:Array Oper} {rest:List Oper} {o:Oper} {a:Act} {Q:Exit→Act→World→Prop} (hgd:o.guard=none) (s x:Operand) (t:TypeId)
  (ho:o.op=.call { callee:=.builtin .append,args:=#[s,x],argTypes:=#[t,t] })
  (base:Nat) (e:TypeId) (z:Value) (bytes:Nat) (ht:P.underlying t=some (.slice e)) (hi:(P.info? e).map (fun i=>(i.zero,i.size,i.bytes))=some (some z,1,bytes)) (hzs:z.cells.size=1)
  (v:Value) (n:Nat) (xs:List Value) (u:Value) (tu:TypeId) (hs:a.eval s=v) (hx:a.eval x=.slice (some ⟨w.heap.size,0,none⟩) 1 1) (hown:w.ownsRow base e 1 v n xs)
  (h1:u.oneCell'=true) (h63:n+1≤maxLen) (hbytes:(n+1)*bytes≤140737488355328) (hbase:base≤w.heap.size)
  (h:∀ v' w',w'.ownsRow base e 1 v' (n+1) (xs++[u])→Below base w w'→(w.alloc (.cells #[u] tu)).grownBy w' v.ownBlock→(v'.ownBlock=v.ownBlock∨v'.ownBlock=some (w.heap.size+1))→wpList P ops Q rest (a.put o.dst v') w') :
  wpList P ops Q (o::rest) a (w.alloc (.cells #[u] tu)):=by
 obtain ⟨i,hi,hz,hsz,hby⟩:=info_parts hi
 have hown':(w.alloc (.cells #[u] tu)).ownsRow base e 1 v n xs:=hown.alloc _
 refine wpList_append_own_at (w.alloc (.cells #[u] tu)) hgd s x t ho base e i z 1 bytes ht hi hz hsz hby hzs (by omega) v n xs hs hown' ⟨w.heap.size,0,none⟩ 1 1 [u] hx rfl ?_ ?_ h63 hbytes (by simp;omega) ?_
 ·exact cell_one_new w u tu
 ·intro y hy;simp at hy;subst hy;exact h1
 ·intro v' w' h2 h3 _ h4
  refine h v' w' h2 ?_ h3 (by simpa using h4)
  exact ((Below.refl base w).alloc hbase _).grown h3 (by simp;omega) (fun k hk=>(hown.lt k hk).1)
theorem run_append_of_nil (base:Nat) (t ty e:TypeId) (i:TypeInfo) (size:Nat) (ht:P.underlying t=some (.slice e)) (hi:P.info? e=some i)
  (v:Value) (n:Nat) (xs:List Value) (hown:w.ownsRow base e size v n xs) (c:Nat):(Builtin.append_ #[t,t] ty #[v,.slice none 0 c]).run P w=.ok v w:=by
 rcases hown.2 with ⟨rfl,rfl⟩|⟨g,cap,cur,rfl,_,_,hnc,_⟩
 ·simp [Builtin.append_,run_underlying ht,sizeOf,typeInfo,hi,Builtin.lenOf,Builtin.firstCells]
 ·simp [Builtin.append_,run_underlying ht,sizeOf,typeInfo,hi,Builtin.lenOf,Builtin.firstCells,hnc,storeCells]
theorem run_append_any (base:Nat) (t ty e:TypeId) (i:TypeInfo) (z:Value) (size bytes:Nat) (ht:P.underlying t=some (.slice e)) (hi:P.info? e=some i) (hz:i.zero=some z)
  (hsize:i.size=size) (hby:i.bytes=bytes) (hzs:z.cells.size=size) (hsz:0<size)
  (v:Value) (n:Nat) (xs:List Value) (hown:w.ownsRow base e size v n xs)
  (B:Nat) (A:Option Addr) (m c:Nat) (news:List Value) (hr:Reads w B size A m news) (h1:∀ u∈news,u.oneCell'=true)
  (h63:n+m≤maxLen) (hbytes:(n+m)*bytes≤140737488355328) (hbase:base≤w.heap.size) :
  ∃ v' w',(Builtin.append_ #[t,t] ty #[v,.slice A m c]).run P w=.ok v' w'∧w'.ownsRow base e size v' (n+m) (xs++news)∧w.grownBy w' v.ownBlock ∧
   (v'.ownBlock=v.ownBlock∨v'.ownBlock=some w.heap.size):=by
 rcases A with _|ad
 ·have hm:m=0:=by
   rcases Nat.eq_zero_or_pos m with h0|h0
   ·exact h0
   ·obtain ⟨b,off,h,_⟩:=hr.2 h0
    cases h
  subst hm
  have hn:news=[]:=List.eq_nil_of_length_eq_zero (by simpa using hr.1)
  subst hn
  exact ⟨v,w,run_append_of_nil w base t ty e i size ht hi v n xs hown c,by simpa using hown,World.grownBy.refl w _,.inl rfl⟩
 ·have hcells:∀ j u,news[j]?=some u→w.cell? (ad.add j)=some u:=by
   intro j u hu
   rcases Nat.eq_zero_or_pos m with h0|h0
   ·subst h0
    have hn:news=[]:=List.eq_nil_of_length_eq_zero (by simpa using hr.1)
    subst hn
    simp at hu
   ·obtain ⟨b,off,h,_,hc⟩:=hr.2 h0
    injection h with h
    subst h
    rw [addr_add]
    exact hc j u hu
  obtain ⟨v',w',hrun,h2,h3,_,h5⟩:=run_append_own_at (P:=P) w base t ty e i z size bytes ht hi hz hsize hby hzs hsz v n xs hown ad m c news hr.1 hcells h1 h63 hbytes hbase
  exact ⟨v',w',hrun,h2,h3,h5⟩
theorem wp_append_any {o:Oper} {a:Act} {K:Act→World→Prop} {Q:Exit→Act→World→Prop} (s x:Operand) (t:TypeId)
  (ho:o.op=.call { callee:=.builtin .append,args:=#[s,x],argTypes:=#[t,t] })
  (base:Nat) (e:TypeId) (z:Value) (size bytes:Nat) (ht:P.underlying t=some (.slice e)) (hi:(P.info? e).map (fun i=>(i.zero,i.size,i.bytes))=some (some z,size,bytes)) (hzs:z.cells.size=size) (hsz:0<size)
  (v:Value) (n:Nat) (xs:List Value) (hs:a.eval s=v) (hown:w.ownsRow base e size v n xs)
  (B:Nat) (A:Option Addr) (m c:Nat) (news:List Value) (hx:a.eval x=.slice A m c) (hr:Reads w B size A m news) (h1:∀ u∈news,u.oneCell'=true)
  (h63:n+m≤maxLen) (hbytes:(n+m)*bytes≤140737488355328) (hbase:base≤w.heap.size)
  (h:∀ v' w',w'.ownsRow base e size v' (n+m) (xs++news)→Below base w w'→w.grownBy w' v.ownBlock→(v'.ownBlock=v.ownBlock∨v'.ownBlock=some w.heap.size)→K (a.put o.dst v') w'):o.wp P a w K Q:=by
 obtain ⟨i,hi,hz,hsz',hby⟩:=info_parts hi
 obtain ⟨v',w',hrun,h2,h3,h4⟩:=run_append_any (P:=P) w base t o.type e i z size bytes ht hi hz hsz' hby hzs hsz v n xs hown B A m c news hr h1 h63 hbytes hbase
 unfold Oper.wp execOp
 simp only [ho,resolve,invoke,builtin,Sem.run_bind,Sem.run_pure,Result.andThen_ok,List.map_toArray,List.map_cons,List.map_nil,hs,hx,hrun]
 exact h v' w' h2 ((Below.refl base w).grown h3 hbase (fun k hk=>(hown.lt k hk).1)) h3 h4
theorem wpList_append_any {ops:Array Oper} {rest:List Oper} {o:Oper} {a:Act} {Q:Exit→Act→World→Prop} (hgd:o.guard=none) (s x:Operand) (t:TypeId)
  (ho:o.op=.call { callee:=.builtin .append,args:=#[s,x],argTypes:=#[t,t] })
  (base:Nat) (e:TypeId) (z:Value) (size bytes:Nat) (ht:P.underlying t=some (.slice e)) (hi:(P.info? e).map (fun i=>(i.zero,i.size,i.bytes))=some (some z,size,bytes)) (hzs:z.cells.size=size) (hsz:0<size)
  (v:Value) (n:Nat) (xs:List Value) (hs:a.eval s=v) (hown:w.ownsRow base e size v n xs)
  (B:Nat) (A:Option Addr) (m c:Nat) (news:List Value) (hx:a.eval x=.slice A m c) (hr:Reads w B size A m news) (h1:∀ u∈news,u.oneCell'=true)
  (h63:n+m≤maxLen) (hbytes:(n+m)*bytes≤140737488355328) (hbase:base≤w.heap.size)
  (h:∀ v' w',w'.ownsRow base e size v' (n+m) (xs++news)→Below base w w'→w.grownBy w' v.ownBlock→(v'.ownBlock=v.ownBlock∨v'.ownBlock=some w.heap.size)→wpList P ops Q rest (a.put o.dst v') w'):wpList P ops Q (o::rest) a w :=
 wpList_plain hgd fun _ hK=>wp_append_any w s x t ho base e z size bytes ht hi hzs hsz v n xs hs hown B A m c news hx hr h1 h63 hbytes hbase fun v' w' h2 h3 h4 h5=>hK _ _ (h v' w' h2 h3 h4 h5)
theorem wpList_append_sl {ops:Array Oper} {rest:List Oper} {o:Oper} {a:Act} {Q:Exit→Act→World→Prop} (hgd:o.guard=none) (s x:Operand) (t:TypeId)
  (ho:o.op=.call { callee:=.builtin .append,args:=#[s,x],argTypes:=#[t,t] })
  (base:Nat) (e:TypeId) (z:Value) (size bytes:Nat) (ht:P.underlying t=some (.slice e)) (hi:(P.info? e).map (fun i=>(i.zero,i.size,i.bytes))=some (some z,size,bytes)) (hzs:z.cells.size=size) (hsz:0<size)
  (v:Value) (n:Nat) (xs:List Value) (hs:a.eval s=v) (hown:w.ownsRow base e size v n xs)
  (B:Nat) (A:Option Addr) (m c:Nat) (news:List Value) (hx:a.eval x=.slice A m c) (hr:Reads w B size A m news) (h1:∀ u∈news,u.oneCell'=true)
  (h63:n+m≤maxLen) (hbytes:(n+m)*bytes≤140737488355328) (hbase:base≤w.heap.size)
  (h:∀ A' c' w',n+m≤c'→c'≤maxLen→Reads w' w'.heap.size size A' (n+m) (xs++news)→Below base w w'→w'.ownsRow base e size (.slice A' (n+m) c') (n+m) (xs++news)→w.grownBy w' v.ownBlock→((Value.slice A' (n+m) c').ownBlock=v.ownBlock∨(Value.slice A' (n+m) c').ownBlock=some w.heap.size) →
   wpList P ops Q rest (a.put o.dst (.slice A' (n+m) c')) w'):wpList P ops Q (o::rest) a w:=by
 refine wpList_append_any w hgd s x t ho base e z size bytes ht hi hzs hsz v n xs hs hown B A m c news hx hr h1 h63 hbytes hbase ?_
 intro v' w' h2 h3 h4 h5
 obtain ⟨A',c',rfl,k1,k2,k3⟩:=own_slice h2
 exact h A' c' w' k1 k2 k3 h3 h2 h4 h5
theorem step_append_sl {ops:Array Oper} {o:Oper} {a:Act} {K:Act→World→Prop} {Q:Exit→Act→World→Prop} {E:Prop} (hgd:o.guard=none) (s x:Operand) (t:TypeId)
  (ho:o.op=.call { callee:=.builtin .append,args:=#[s,x],argTypes:=#[t,t] })
  (base:Nat) (e:TypeId) (z:Value) (size bytes:Nat) (ht:P.underlying t=some (.slice e)) (hi:(P.info? e).map (fun i=>(i.zero,i.size,i.bytes))=some (some z,size,bytes)) (hzs:z.cells.size=size) (hsz:0<size)
  (v:Value) (n:Nat) (xs:List Value) (hs:a.eval s=v) (hown:w.ownsRow base e size v n xs)
  (B:Nat) (A:Option Addr) (m c:Nat) (news:List Value) (hx:a.eval x=.slice A m c) (hr:Reads w B size A m news) (h1:∀ u∈news,u.oneCell'=true)
  (h63:n+m≤maxLen) (hbytes:(n+m)*bytes≤140737488355328) (hbase:base≤w.heap.size)
  (h:∀ A' c' w',n+m≤c'→c'≤maxLen→Reads w' w'.heap.size size A' (n+m) (xs++news)→Below base w w'→w'.ownsRow base e size (.slice A' (n+m) c') (n+m) (xs++news)→w.grownBy w' v.ownBlock→((Value.slice A' (n+m) c').ownBlock=v.ownBlock∨(Value.slice A' (n+m) c').ownBlock=some w.heap.size) →
   K (a.put o.dst (.slice A' (n+m) c')) w') :
  if Region.wanted o (yielded ops a.tmps)=true then Oper.wp P o a w K Q else E:=by
 have hw:Region.wanted o (yielded ops a.tmps)=true:=by simp [Region.wanted,hgd]
 rw [if_pos hw]
 refine wp_append_any w s x t ho base e z size bytes ht hi hzs hsz v n xs hs hown B A m c news hx hr h1 h63 hbytes hbase ?_
 intro v' w' h2 h3 h4 h5
 obtain ⟨A',c',rfl,k1,k2,k3⟩:=own_slice h2
 exact h A' c' w' k1 k2 k3 h3 h2 h4 h5
end
theorem own_below {w w':World} {base:Nat} {e:TypeId} {size n:Nat} {v:Value} {xs:List Value} (h:w.ownsRow base e size v n xs) (hb:Below w.heap.size w w'):w'.ownsRow base e size v n xs :=
 h.kept (row:=none) ⟨hb.os,hb.tape,hb.output,hb.size,fun k hk _=>hb.block k hk⟩ (by cases v.ownBlock<;>simp)
theorem own_base {w:World} {base base':Nat} {e:TypeId} {size n:Nat} {v:Value} {xs:List Value} (h:w.ownsRow base e size v n xs) (hb:base'≤base):w.ownsRow base' e size v n xs:=by
 refine ⟨h.1,?_⟩
 rcases h.2 with h2|⟨g,cap,cur,hv,hg,r⟩
 ·exact .inl h2
 ·exact .inr ⟨g,cap,cur,hv,Nat.le_trans hb hg,r⟩
theorem own_only {w w':World} {g base:Nat} {e:TypeId} {size n:Nat} {v:Value} {xs:List Value} (h:w.ownsRow base e size v n xs) (ho:Only g w w') (hg:g<base):w'.ownsRow base e size v n xs:=by
 refine h.kept ho ?_
 rcases hv:v.ownBlock with _|k
 ·exact .inl rfl
 ·right
  intro e'
  injection e' with e'
  have:=(h.lt k hv).1
  omega
theorem own_bytes {w:World} {base:Nat} {e:TypeId} {A:Option Addr} {c:Nat} {l:List UInt8} (h:w.ownsRow base e 1 (.slice A l.length c) l.length (l.map byteV)):Bytes w w.heap.size A l.length l:=.of (Reads.of_own h)
theorem own_drewN {w:World} {base:Nat} {e:TypeId} {size n:Nat} {v:Value} {xs:List Value} (h:w.ownsRow base e size v n xs) (k:Nat):(w.drewN k).ownsRow base e size v n xs:=h
def RetBytes (t:TypeId) (w:World) (l:List UInt8) (e:Ending) (w':World):Prop:=∃ v,e=.returned v∧w'.ownsRow w.heap.size t 1 v l.length (l.map byteV)∧Below w.heap.size w w'
theorem RetBytes.opened {t:TypeId} {w w':World} {l:List UInt8} {e:Ending} (h:RetBytes t w l e w') :
  ∃ A c,e=.returned (.slice A l.length c)∧l.length≤c∧c≤maxLen∧Bytes w' w'.heap.size A l.length l∧Below w.heap.size w w'∧w'.ownsRow w.heap.size t 1 (.slice A l.length c) l.length (l.map byteV):=by
 obtain ⟨v,rfl,hown,hbel⟩:=h
 obtain ⟨A,c,rfl,h1,h2,h3⟩:=own_slice hown
 exact ⟨A,c,rfl,h1,h2,.of h3,hbel,hown⟩
theorem Bytes.taken {w:World} {B n k:Nat} {A:Option Addr} {l:List UInt8} (h:Bytes w B A n l) (hk:k≤n):Bytes w B A k (l.take k) :=
 .of (by have:=h.2.take hk;rwa [Nat.mul_one,← List.map_take] at this)
theorem Bytes.cutted {w:World} {B n k c:Nat} {A:Option Addr} {l:List UInt8} (h:Bytes w B A n l) (hk:k≤n) (hc:n≤c):Bytes w B (if c=k then A else A.map (·.add k)) (n-k) (l.drop k) :=
 .of (by have:=h.2.cut hk hc;rw [Nat.mul_one,← List.map_drop] at this;exact this)
theorem own_snoc {w:World} {base:Nat} {t:TypeId} {v:Value} {l:List UInt8} {x:Int} {b:UInt8} (h:w.ownsRow base t 1 v (l.length+1) (l.map byteV++[.int .u8 x])) (hx:x=(b.toNat:Int)) :
  w.ownsRow base t 1 v (l++[b]).length ((l++[b]).map byteV):=by
 subst hx;simpa [byteV] using h
theorem u8_nat {n:Nat} (h:n<256):(n:Int)=((UInt8.ofNat n).toNat:Int):=by
 rw [UInt8.toNat_ofNat'];omega
end Go.Proofs.YtibnehaibgbliaaGreat
namespace Go.Proofs.YtibnehaibgbliaaGreat
open Go.ChangeShapes Go.WideShapes Go.ChangeAt Go.RowKit
open Go.ChangeMaps (open_string shut_string)
open Go.Deep (oneCellFields)
structure Arg {H:Type} (enc:TypeId × Value→H) (P:Program) (W:World) (base:Nat) (t:TypeId) (v:Value) (d:DataW H) (p:List MemPlace):Prop where
 ok:Value.okWide P W .any base t v
 trod:DataW.Trod enc P W 0 (fun _=>true) true t v d p
 lt:∀ x∈p,x.block<W.heap.size
 sized:∀ n∈d.weights P t,n≤reachBytes
theorem sized_each {H:Type} {P:Program} {ts:List TypeId} {ds:List (DataW H)} (h:(DataW.weightsEach P ts ds).all (·≤reachBytes)=true) {j:Nat} {t:TypeId} {d:DataW H} (ht:ts[j]?=some t) (hd:ds[j]?=some d):∀ n∈d.weights P t,n≤reachBytes:=by
 intro n hn
 have:=List.all_eq_true.1 h n (DataW.weights_mem_each ht hd n hn)
 simpa using this
section
variable {H:Type} {enc:TypeId × Value→H} {P:Program} {W:World} {base:Nat} {t e:TypeId} {k:IntKind} {v:Value} {d:DataW H} {p:List MemPlace}
theorem Arg.int (h:Arg enc P W base t v d p) (hU:P.underlying t=some (.int k)):∃ x:Int,v=.int k x∧d=.lit (.int k x)∧(Lit.int k x).wf=true:=by
 obtain ⟨x,h1,h2,_,h4⟩:=open_int hU h.ok h.trod
 exact ⟨x,h1,h2,h4⟩
end
theorem choose_list {α:Type} {p:Nat→α→Prop} (n:Nat) (h:∀ i,i<n→∃ x,p i x):∃ l:List α,l.length=n∧∀ i (hi:i<l.length),p i l[i]:=by
 induction n with
 | zero=>exact ⟨[],rfl,fun i hi=>absurd hi (by simp)⟩
 | succ n ih =>
  obtain ⟨l,hl,hp⟩:=ih fun i hi=>h i (by omega)
  obtain ⟨x,hx⟩:=h n (by omega)
  refine ⟨l++[x],by simp [hl],fun i hi=>?_⟩
  rcases Nat.lt_or_ge i l.length with h1|h1
  ·rw [List.getElem_append_left h1];exact hp i h1
  ·have:i=l.length:=by simp at hi;omega
   subst this
   rw [List.getElem_append_right (Nat.le_refl _)]
   simpa [hl] using hx
section
variable {H:Type} {enc:TypeId × Value→H} {P:Program} {W:World} {base:Nat} {t e:TypeId} {v:Value} {d:DataW H} {p:List MemPlace}
end
end Go.Proofs.YtibnehaibgbliaaGreat
namespace Go.Proofs.YtibnehaibgbliaaGreat
open Go.RowKit
open Go.ChangeShapes Go.WideShapes
theorem weights_all {H:Type} {P:Program} {e:TypeId}:∀ (l:List (DataW H)) (d:DataW H),d∈l→∀ n∈d.weights P e,n∈DataW.weightsAll P e l
 | [],d,h,n,hn=>by cases h
 | x::r,d,h,n,hn=>by
  rw [DataW.weightsAll]
  rcases List.mem_cons.1 h with rfl|h
  ·exact List.mem_append_left _ hn
  ·exact List.mem_append_right _ (weights_all r d h n hn)
structure Part {H:Type} (enc:TypeId × Value→H) (P:Program) (W:World) (t:TypeId) (v:Value) (d:DataW H):Prop where
 trod:∃ (m:Nat) (p:List MemPlace),DataW.trod enc P W 0 (fun _=>true) true m t [v]=some (d,p)
 sized:∀ n∈d.weights P t,n≤reachBytes
section
variable {H:Type} {enc:TypeId × Value→H} {P:Program} {W:World} {t e:TypeId} {v:Value} {d:DataW H}
theorem Part.int {k:IntKind} (h:Part enc P W t v d) (hU:P.underlying t=some (.int k)):∃ x:Int,v=.int k x∧(Lit.int k x).wf=true:=by
 obtain ⟨m,p,h⟩:=h.trod
 obtain ⟨x,r,_,w⟩:=DataW.trod_int hU h
 simp only [List.cons.injEq,and_true] at r
 exact ⟨x,r,w⟩
theorem Part.str (h:Part enc P W t v d) (hU:P.underlying t=some .string):∃ s:ByteArray,v=.string s∧s.size≤140737488351232:=by
 have hs:=h.sized
 obtain ⟨m,p,h⟩:=h.trod
 obtain ⟨s,r,hy,_⟩:=DataW.trod_string hU h
 simp only [List.cons.injEq,and_true] at r
 simp only [Prod.mk.injEq] at hy
 refine ⟨s,r,?_⟩
 have:=hs s.data.toList.length (by rw [hy.1];simp [DataW.weights])
 have e:s.data.toList.length=s.size:=by rw [Array.length_toList];rfl
 simp only [reachBytes] at this
 omega
theorem Part.structs {fs:Array Field} (h:Part enc P W t v d) (hU:P.underlying t=some (.slice e)) (hE:P.underlying e=some (.struct fs)) (hone:Go.Deep.oneCellFields P fs=true) (hC:P.cellsOf e=fs.size) (hpos:0<fs.size) :
  ∃ (A:Option Addr) (n c:Nat),v=.slice A n c∧n≤c∧c≤maxLen∧c*P.bytesOf e≤140737488351232 ∧
   (0<n→∃ b off,A=some ⟨b,off,none⟩∧b<W.heap.size∧∀ i,i<n→∀ j f,fs[j]?=some f→∃ u y,W.cell? ⟨b,off+(i*fs.size+j),none⟩=some u∧Part enc P W f.type u y):=by
 have hs:=h.sized
 obtain ⟨m,p,h⟩:=h.trod
 rcases Go.Deep.open_slice hU h with ⟨hcs,_⟩|⟨x,l,c',m',nf,Dd,Pl,hcs,_,hl,hm,hmm,hx,hi⟩
 ·simp only [List.cons.injEq,and_true] at hcs
  exact ⟨none,0,0,hcs,Nat.le_refl _,by simp [maxLen],by omega,fun h=>absurd h (by omega)⟩
 ·simp only [List.cons.injEq,and_true] at hcs
  subst hcs
  have hmm:m'=c':=by simpa using hmm
  subst hmm
  simp only [Prod.mk.injEq] at hx
  obtain ⟨rfl,rfl⟩:=hx
  have hr:=hs (((List.range l).map Dd).length*P.bytesOf e+((List.range (m'-l)).map fun j=>Dd (l+j)).length*P.bytesOf e) (by simp [DataW.weights,hU,Nat.add_mul])
  simp only [List.length_map,List.length_range] at hr
  rw [← Nat.add_mul,show l+(m'-l)=m' by omega] at hr
  refine ⟨some x,l,m',rfl,hl,hm,by simpa [reachBytes] using hr,fun hn=>?_⟩
  have key:∀ i,i<l→∀ j f,fs[j]?=some f→∃ u y,W.cell? (x.add (i*fs.size+j))=some u∧Part enc P W f.type u y:=fun i hin j f hj=>by
   obtain ⟨cs',hc,ht'⟩:=hi i (by omega)
   rw [hC] at hc
   obtain ⟨ys,n',hn',hy,hlen,hyl,hfd⟩:=DataW.trod_struct hE ht'
   obtain ⟨_,hcl,hat⟩:=World.cells?_some hc
   simp only [Prod.mk.injEq] at hy
   obtain ⟨ho,hk⟩:=Go.Deep.hone_of hone j f hj
   have hjl:j<fs.size:=(Array.getElem?_eq_some_iff.1 hj).1
   have hcell:=hat j hjl
   have hv:cs'[j]?=some (cs'[j]'(by omega)):=List.getElem?_eq_getElem (by omega)
   have h1:=hfd j f hj
   rw [ho,hk] at h1
   have hone':(cs'.drop j).take 1=[cs'[j]'(by omega)]:=by
    rw [List.drop_eq_getElem_cons (by omega)]
    rfl
   rw [hone'] at h1
   have hys:ys[j]?=some (ys[j]'(by omega)):=List.getElem?_eq_getElem (by omega)
   refine ⟨cs'[j]'(by omega),(ys[j]'(by omega)).1,?_,⟨n',(ys[j]'(by omega)).2,h1.trans hys⟩,fun k hk'=>hs k ?_⟩
   ·rw [← Go.Deep.add_add,hcell,hv]
   ·have h2:k∈DataW.weights P e (.agg (ys.map (·.1))):=by
     simp only [DataW.weights,hE]
     refine DataW.weights_mem_each (j:=j) (t:=f.type) (d:=(ys[j]'(by omega)).1) ?_ ?_ k hk'
     ·rw [List.getElem?_map,Array.getElem?_toList,hj];rfl
     ·rw [List.getElem?_map,hys];rfl
    have h3:=weights_all ((List.range l).map Dd) (Dd i) (List.mem_map.2 ⟨i,List.mem_range.2 hin,rfl⟩) k (by rw [hy.1];exact h2)
    simp only [DataW.weights,hU]
    simp only [List.mem_append,List.mem_cons]
    simp [h3]
  obtain ⟨b,off,spot⟩:=x
  obtain ⟨f0,hf0⟩:∃ f,fs[0]?=some f:=⟨fs[0],Array.getElem?_eq_getElem hpos⟩
  obtain ⟨u0,_,hc0,_⟩:=key 0 (by omega) 0 f0 hf0
  have hspot:spot=none:=by simpa [Addr.add] using World.cell?_spot hc0
  subst hspot
  refine ⟨b,off,rfl,?_,fun i hi' j f hj=>?_⟩
  ·have:=World.block_lt_of_cell? W _ hc0
   simpa [Addr.add] using this
  ·obtain ⟨u,y,h4,h5⟩:=key i hi' j f hj
   rw [addr_add] at h4
   exact ⟨u,y,h4,h5⟩
end
theorem Arg.part {H:Type} {enc:TypeId × Value→H} {P:Program} {W:World} {base:Nat} {t:TypeId} {v:Value} {d:DataW H} {p:List MemPlace} (h:Arg enc P W base t v d p) (hv:v.cells.toList=[v]):Part enc P W t v d :=
 ⟨by obtain ⟨m,hm⟩:=h.trod;exact ⟨m,p,by rw [← hv];exact hm⟩,h.sized⟩
theorem flatMap_len {α:Type} {cells:α→List Value} {size:Nat} (h:∀ x,(cells x).length=size) (l:List α):(l.flatMap cells).length=l.length*size:=by
 induction l with
 | nil=>simp
 | cons x r ih=>rw [List.flatMap_cons,List.length_append,h,ih,List.length_cons,Nat.succ_mul,Nat.add_comm]
theorem flatMap_get {α:Type} {cells:α→List Value} {size:Nat} (h:∀ x,(cells x).length=size):∀ (l:List α) (i:Nat) (hi:i<l.length) (j:Nat),j<size→(l.flatMap cells)[i*size+j]?=(cells l[i])[j]?
 | [],i,hi,_,_=>absurd hi (by simp)
 | x::r,0,_,j,hj=>by
  rw [List.flatMap_cons,Nat.zero_mul,Nat.zero_add,List.getElem?_append_left (by rw [h];exact hj)]
  rfl
 | x::r,i+1,hi,j,hj=>by
  rw [List.flatMap_cons,List.getElem?_append_right (by rw [h,Nat.succ_mul];omega),h,show (i+1)*size+j-size=i*size+j by rw [Nat.succ_mul];omega]
  exact flatMap_get h r i (by simpa using hi) j hj
theorem Part.flat {H:Type} {enc:TypeId × Value→H} {P:Program} {W:World} {t e:TypeId} {v:Value} {d:DataW H} {fs:Array Field} {α:Type} (h:Part enc P W t v d) (hU:P.underlying t=some (.slice e)) (hE:P.underlying e=some (.struct fs)) (hone:Go.Deep.oneCellFields P fs=true) (hC:P.cellsOf e=fs.size) (hpos:0<fs.size)
  (cells:α→List Value) (hlen:∀ x,(cells x).length=fs.size) (good:α→Prop)
  (hx:∀ us:Nat→Value,(∀ j f,fs[j]?=some f→∃ y,Part enc P W f.type (us j) y)→∃ x,good x∧∀ j,j<fs.size→(cells x)[j]?=some (us j)) :
  ∃ (A:Option Addr) (c:Nat) (l:List α),v=.slice A l.length c∧l.length≤c∧c≤maxLen∧c*P.bytesOf e≤140737488351232∧Reads W W.heap.size fs.size A l.length (l.flatMap cells)∧∀ x∈l,good x:=by
 obtain ⟨A,n,c,rfl,hn,hm,hby,hc⟩:=h.structs hU hE hone hC hpos
 rcases Nat.eq_zero_or_pos n with h0|h0
 ·subst h0
  exact ⟨A,c,[],rfl,Nat.zero_le _,hm,hby,⟨by simp,fun h=>absurd h (by simp)⟩,by simp⟩
 ·obtain ⟨b,off,rfl,hb,hi⟩:=hc h0
  obtain ⟨l,hl,hp⟩:=choose_list (p:=fun i (x:α)=>good x∧∀ j,j<fs.size→W.cell? ⟨b,off+(i*fs.size+j),none⟩=(cells x)[j]?) n (fun i hin=>by
   have hk:∀ j,∃ u,∀ f,fs[j]?=some f→W.cell? ⟨b,off+(i*fs.size+j),none⟩=some u∧∃ y,Part enc P W f.type u y:=fun j=>by
    rcases Nat.lt_or_ge j fs.size with hj|hj
    ·obtain ⟨u,y,h1,h2⟩:=hi i hin j fs[j] (Array.getElem?_eq_getElem hj)
     refine ⟨u,fun f hf=>?_⟩
     rw [Array.getElem?_eq_getElem hj] at hf
     injection hf with hf
     subst hf
     exact ⟨h1,y,h2⟩
    ·exact ⟨undef,fun f hf=>by rw [Array.getElem?_eq_none hj] at hf;cases hf⟩
   obtain ⟨x,hg,hxs⟩:=hx (fun j=>(hk j).choose) (fun j f hf=>((hk j).choose_spec f hf).2)
   exact ⟨x,hg,fun j hj=>by rw [hxs j hj];exact ((hk j).choose_spec _ (Array.getElem?_eq_getElem hj)).1⟩)
  refine ⟨some ⟨b,off,none⟩,c,l,by rw [hl],by omega,hm,hby,⟨flatMap_len hlen l,fun _=>⟨b,off,rfl,hb,fun j u hu=>?_⟩⟩,fun x hx=>?_⟩
  ·have hj:j<l.length*fs.size:=by rw [← flatMap_len hlen];exact (List.getElem?_eq_some_iff.1 hu).1
   have hji:j/fs.size<l.length:=(Nat.div_lt_iff_lt_mul hpos).2 hj
   have hjm:=Nat.mod_lt j hpos
   have e:j/fs.size*fs.size+j%fs.size=j:=by rw [Nat.mul_comm];exact Nat.div_add_mod j fs.size
   have g:=flatMap_get hlen l (j/fs.size) hji (j%fs.size) hjm
   have q:=(hp (j/fs.size) hji).2 (j%fs.size) hjm
   rw [e] at g q
   rw [q,← g,hu]
  ·obtain ⟨i,hi',rfl⟩:=List.getElem_of_mem hx
   exact (hp i hi').1
structure PartC {H:Type} (enc:TypeId × Value→H) (P:Program) (W:World) (t:TypeId) (cs:List Value) (d:DataW H):Prop where
 trod:∃ (m:Nat) (p:List MemPlace),DataW.trod enc P W 0 (fun _=>true) true m t cs=some (d,p)
 sized:∀ n∈d.weights P t,n≤reachBytes
section
variable {H:Type} {enc:TypeId × Value→H} {P:Program} {W:World} {t e:TypeId} {v:Value} {cs:List Value} {d:DataW H}
theorem PartC.one (h:PartC enc P W t [v] d):Part enc P W t v d:=⟨h.trod,h.sized⟩
theorem PartC.len {fs:Array Field} (h:PartC enc P W t cs d) (hE:P.underlying t=some (.struct fs)):cs.length=P.cellsOf t:=by
 obtain ⟨m,p,ht⟩:=h.trod
 obtain ⟨_,_,_,_,hl,_⟩:=DataW.trod_struct hE ht
 exact hl
theorem PartC.field {fs:Array Field} (h:PartC enc P W t cs d) (hE:P.underlying t=some (.struct fs)) {j:Nat} {f:Field} (hj:fs[j]?=some f):∃ y,PartC enc P W f.type ((cs.drop f.offset).take (P.cellsOf f.type)) y:=by
 obtain ⟨m,p,ht⟩:=h.trod
 obtain ⟨ys,n',hn',hy,hlen,hyl,hfd⟩:=DataW.trod_struct hE ht
 simp only [Prod.mk.injEq] at hy
 have hjl:j<fs.size:=(Array.getElem?_eq_some_iff.1 hj).1
 have hys:ys[j]?=some (ys[j]'(by omega)):=List.getElem?_eq_getElem (by omega)
 refine ⟨(ys[j]'(by omega)).1,⟨n',(ys[j]'(by omega)).2,(hfd j f hj).trans hys⟩,fun k hk'=>h.sized k ?_⟩
 rw [hy.1]
 simp only [DataW.weights,hE]
 refine DataW.weights_mem_each (j:=j) (t:=f.type) (d:=(ys[j]'(by omega)).1) ?_ ?_ k hk'
 ·rw [List.getElem?_map,Array.getElem?_toList,hj];rfl
 ·rw [List.getElem?_map,hys];rfl
theorem PartC.fieldAt {fs:Array Field} (h:PartC enc P W t cs d) (hE:P.underlying t=some (.struct fs)) (j o k:Nat) (t':TypeId) (hj:(fs[j]?).map (fun f=>(f.type,f.offset,P.cellsOf f.type))=some (t',o,k)):∃ y,PartC enc P W t' ((cs.drop o).take k) y:=by
 cases hf:fs[j]? with
 | none=>rw [hf] at hj;cases hj
 | some f =>
  rw [hf] at hj
  simp only [Option.map_some,Option.some.injEq,Prod.mk.injEq] at hj
  obtain ⟨rfl,rfl,rfl⟩:=hj
  exact h.field hE hf
theorem Part.slots (h:Part enc P W t v d) (hU:P.underlying t=some (.slice e)) (hpos:0<P.cellsOf e) :
  ∃ (A:Option Addr) (n c:Nat),v=.slice A n c∧n≤c∧c≤maxLen∧c*P.bytesOf e≤140737488351232 ∧
   (0<n→∃ b off,A=some ⟨b,off,none⟩∧b<W.heap.size∧∀ i,i<n→∃ cs y,cs.length=P.cellsOf e∧(∀ j u,cs[j]?=some u→W.cell? ⟨b,off+(i*P.cellsOf e+j),none⟩=some u)∧PartC enc P W e cs y):=by
 have hs:=h.sized
 obtain ⟨m,p,h⟩:=h.trod
 rcases Go.Deep.open_slice hU h with ⟨hcs,_⟩|⟨x,l,c',m',nf,Dd,Pl,hcs,_,hl,hm,hmm,hx,hi⟩
 ·simp only [List.cons.injEq,and_true] at hcs
  exact ⟨none,0,0,hcs,Nat.le_refl _,by simp [maxLen],by omega,fun h=>absurd h (by omega)⟩
 ·simp only [List.cons.injEq,and_true] at hcs
  subst hcs
  have hmm:m'=c':=by simpa using hmm
  subst hmm
  simp only [Prod.mk.injEq] at hx
  obtain ⟨rfl,rfl⟩:=hx
  have hr:=hs (((List.range l).map Dd).length*P.bytesOf e+((List.range (m'-l)).map fun j=>Dd (l+j)).length*P.bytesOf e) (by simp [DataW.weights,hU,Nat.add_mul])
  simp only [List.length_map,List.length_range] at hr
  rw [← Nat.add_mul,show l+(m'-l)=m' by omega] at hr
  refine ⟨some x,l,m',rfl,hl,hm,by simpa [reachBytes] using hr,fun hn=>?_⟩
  have key:∀ i,i<l→∃ cs y,cs.length=P.cellsOf e∧(∀ j u,cs[j]?=some u→W.cell? (x.add (i*P.cellsOf e+j))=some u)∧PartC enc P W e cs y:=fun i hin=>by
   obtain ⟨cs',hc,ht'⟩:=hi i (by omega)
   obtain ⟨_,hcl,hat⟩:=World.cells?_some hc
   refine ⟨cs',Dd i,hcl,fun j u hu=>?_,⟨nf,Pl i,ht'⟩,fun k hk=>hs k ?_⟩
   ·have hj:j<P.cellsOf e:=by rw [← hcl];exact (List.getElem?_eq_some_iff.1 hu).1
    rw [← Go.Deep.add_add,hat j hj,hu]
   ·have h3:=weights_all ((List.range l).map Dd) (Dd i) (List.mem_map.2 ⟨i,List.mem_range.2 hin,rfl⟩) k hk
    simp only [DataW.weights,hU]
    simp only [List.mem_append,List.mem_cons]
    simp [h3]
  obtain ⟨b,off,spot⟩:=x
  obtain ⟨cs0,y0,hl0,hc0,_⟩:=key 0 hn
  have hc00:=hc0 0 (cs0[0]'(by omega)) (List.getElem?_eq_getElem (by omega))
  have hspot:spot=none:=by simpa [Addr.add] using World.cell?_spot hc00
  subst hspot
  refine ⟨b,off,rfl,?_,fun i hi'=>?_⟩
  ·have:=World.block_lt_of_cell? W _ hc00
   simpa [Addr.add] using this
  ·obtain ⟨cs,y,h3,h4,h5⟩:=key i hi'
   refine ⟨cs,y,h3,fun j u hu=>?_,h5⟩
   have:=h4 j u hu
   rwa [addr_add] at this
theorem Part.rows {α:Type} {size:Nat} (h:Part enc P W t v d) (hU:P.underlying t=some (.slice e)) (hC:P.cellsOf e=size) (hpos:0<size)
  (cells:α→List Value) (good:α→Prop) (hx:∀ cs y,cs.length=size→PartC enc P W e cs y→∃ x,good x∧cells x=cs) (hlen:∀ x,(cells x).length=size) :
  ∃ (A:Option Addr) (c:Nat) (l:List α),v=.slice A l.length c∧l.length≤c∧c≤maxLen∧c*P.bytesOf e≤140737488351232∧Reads W W.heap.size size A l.length (l.flatMap cells)∧∀ x∈l,good x:=by
 obtain ⟨A,n,c,rfl,hn,hm,hby,hc⟩:=h.slots hU (by omega)
 rcases Nat.eq_zero_or_pos n with h0|h0
 ·subst h0
  exact ⟨A,c,[],rfl,Nat.zero_le _,hm,hby,⟨by simp,fun h=>absurd h (by simp)⟩,by simp⟩
 ·obtain ⟨b,off,rfl,hb,hi⟩:=hc h0
  rw [hC] at hi
  obtain ⟨l,hl,hp⟩:=choose_list (p:=fun i (x:α)=>good x∧∀ j u,(cells x)[j]?=some u→W.cell? ⟨b,off+(i*size+j),none⟩=some u) n (fun i hin=>by
   obtain ⟨cs,y,h1,h2,h3⟩:=hi i hin
   obtain ⟨x,hg,rfl⟩:=hx cs y h1 h3
   exact ⟨x,hg,h2⟩)
  refine ⟨some ⟨b,off,none⟩,c,l,by rw [hl],by omega,hm,hby,⟨flatMap_len hlen l,fun _=>⟨b,off,rfl,hb,fun j u hu=>?_⟩⟩,fun x hx=>?_⟩
  ·have hj:j<l.length*size:=by rw [← flatMap_len hlen];exact (List.getElem?_eq_some_iff.1 hu).1
   have hji:j/size<l.length:=(Nat.div_lt_iff_lt_mul hpos).2 hj
   have hjm:=Nat.mod_lt j hpos
   have e:j/size*size+j%size=j:=by rw [Nat.mul_comm];exact Nat.div_add_mod j size
   have g:=flatMap_get hlen l (j/size) hji (j%size) hjm
   rw [e] at g
   have q:=(hp (j/size) hji).2 (j%size) u (by rw [← g,hu])
   rwa [e] at q
  ·obtain ⟨i,hi',rfl⟩:=List.getElem_of_mem hx
   exact (hp i hi').1
end
end Go.Proofs.YtibnehaibgbliaaGreat
namespace Go.Proofs.YtibnehaibgbliaaGreat.Lb
open Go.RowKit
theorem quiet_left {P:Program} {f:FuncId} {args:Array Value} {w:World} {n:Nat} {v:Value}
  (h:Calls P f args (w.drewN n) fun e w'=>e=.returned v∧w.drewN n=w'):Calls P f args (w.drewN n) fun e w''=>e=.returned v∧∃ m,w''=w.drewN m :=
 h.mono fun _ _ ⟨he,hm⟩=>⟨he,n,hm.symm⟩
abbrev Lab:=ByteArray × ByteArray
def labCells (l:List Lab):List Value:=l.flatMap fun x=>[.string x.1,.string x.2]
theorem labCells_get:∀ (l:List Lab) (i:Nat) (hi:i<l.length),(labCells l)[i*2]?=some (.string l[i].1)∧(labCells l)[i*2+1]?=some (.string l[i].2)
 | [],i,hi=>absurd hi (by simp)
 | x::r,0,_=>⟨rfl,rfl⟩
 | x::r,i+1,hi=>by
  have h:=labCells_get r i (by simpa using hi)
  have e1:(i+1)*2=i*2+1+1:=by omega
  rw [e1]
  exact h
theorem labCells_app (l m:List Lab):labCells (l++m)=labCells l++labCells m:=by simp [labCells]
theorem labCells_one (l:List Lab):∀ u∈labCells l,u.oneCell'=true:=by
 intro u hu
 obtain ⟨x,_,hu⟩:=List.mem_flatMap.1 hu
 simp at hu
 rcases hu with rfl|rfl<;>rfl
def Labs (w:World) (B:Nat) (A:Option Addr) (l:List Lab):Prop:=Reads w B 2 A l.length (labCells l)
section
variable {w w':World} {B B':Nat} {A:Option Addr} {l:List Lab}
theorem Labs.below (h:Labs w B A l) (hb:Below B w w'):Labs w' B A l:=Reads.below h hb
theorem Labs.more (h:Labs w B A l) (hb:B≤B'):Labs w B' A l:=Reads.more h hb
theorem Labs.nil_:Labs w B A []:=⟨rfl,fun h=>absurd h (by simp)⟩
theorem Labs.cell (h:Labs w B A l) (hp:0<l.length):∃ b off,A=some ⟨b,off,none⟩∧b<B∧∀ j (hj:j<l.length),w.cell? ⟨b,off+j*2,none⟩=some (.string l[j].1)∧w.cell? ⟨b,off+j*2+1,none⟩=some (.string l[j].2):=by
 obtain ⟨b,off,e,hb,hc⟩:=h.2 hp
 exact ⟨b,off,e,hb,fun j hj=>⟨hc _ _ (labCells_get l j hj).1,by rw [Nat.add_assoc];exact hc _ _ (labCells_get l j hj).2⟩⟩
end
def Fit (l:List Lab):Prop:=∀ x∈l,x.1.size≤140737488351232∧x.2.size≤140737488351232
def labAt (l:List Lab) (i:Nat):Lab:=l.getD i (ByteArray.empty,ByteArray.empty)
theorem labAt_eq {l:List Lab} {i:Nat} (h:i<l.length):l[i]=labAt l i:=by simp [labAt,List.getD,List.getElem?_eq_getElem h]
theorem fit_at {l:List Lab} (h:Fit l) (i:Nat):(labAt l i).1.size≤140737488351232∧(labAt l i).2.size≤140737488351232:=by
 rcases Nat.lt_or_ge i l.length with h1|h1
 ·rw [← labAt_eq h1];exact h _ (List.getElem_mem h1)
 ·have e:labAt l i=(ByteArray.empty,ByteArray.empty):=by simp [labAt,List.getD,List.getElem?_eq_none h1]
  rw [e]
  exact ⟨by simp,by simp⟩
theorem Labs.cellAt {w:World} {B:Nat} {A:Option Addr} {l:List Lab} (h:Labs w B A l) (hp:0<l.length):∃ b off,A=some ⟨b,off,none⟩∧b<B∧∀ j,j<l.length→w.cell? ⟨b,off+j*2,none⟩=some (.string (labAt l j).1)∧w.cell? ⟨b,off+j*2+1,none⟩=some (.string (labAt l j).2):=by
 obtain ⟨b,off,e,hb,hc⟩:=h.cell hp
 exact ⟨b,off,e,hb,fun j hj=>by rw [← labAt_eq hj];exact hc j hj⟩
def at8 (s:ByteArray) (i:Nat):UInt8:=s.data.toList.getD i 0
theorem at8_eq {s:ByteArray} {k:Nat} (h:k<s.size):s[k]=at8 s k:=by
 have h2:k<s.data.toList.length:=by rw [Array.length_toList];exact h
 unfold at8
 rw [List.getD,List.getElem?_eq_getElem h2]
 rfl
def letterB (c:UInt8):Bool:=decide ((97≤c.toNat∧c.toNat≤122)∨(48≤c.toNat∧c.toNat≤57)∨c.toNat=95)
def okC (i:Nat) (c:UInt8):Prop:=(97≤c.toNat∧c.toNat≤122)∨(0<i∧((48≤c.toNat∧c.toNat≤57)∨c.toNat=95))
instance (i:Nat) (c:UInt8):Decidable (okC i c):=by unfold okC;infer_instance
def nameP (s:ByteArray):Prop:=1≤s.size∧s.size≤8∧∀ i,i<s.size→okC i (at8 s i)
instance (s:ByteArray):Decidable (nameP s):=by unfold nameP;infer_instance
def nameB (s:ByteArray):Bool:=decide (nameP s)
theorem nameB_yes {s:ByteArray} (h:nameP s):nameB s=true:=decide_eq_true h
theorem nameB_no {s:ByteArray} (h:¬ nameP s):nameB s=false:=decide_eq_false h
theorem name_step {s:ByteArray} {k:Nat} {c:UInt8} (h:∀ i,i<k→okC i (at8 s i)) (hc:c=at8 s k) (ho:okC k c):∀ i,i<k+1→okC i (at8 s i):=by
 intro i hi
 rcases Nat.lt_or_ge i k with h1|h1
 ·exact h i h1
 ·obtain rfl:i=k:=by omega
  rw [← hc];exact ho
theorem name_bad {s:ByteArray} {k:Nat} {c:UInt8} (hk:k<s.size) (hc:c=at8 s k) (ho:¬ okC k c):nameB s=false:=nameB_no fun h=>ho (by rw [hc];exact h.2.2 k hk)
set_option maxRecDepth 100000 in
set_option maxHeartbeats 800000 in
theorem name_calls (s:ByteArray) (w:World) (hs:s.size≤140737488351232) :
  Calls Tryz.prog 153 #[.string s] w fun e w'=>e=.returned (.bool (nameB s))∧w=w':=by
 go_enter Tryz.func153,Tryz.ntmps153
 go_wp2
 go_loop [7] (fun i=>∃ k:Nat,k≤s.size∧i=.int .i64 (k:Int)∧Hid (∀ i,i<k→okC i (at8 s i))) (fun i=>s.size-(intOf i).toNat)
 case atStart=>exact ⟨0,Nat.zero_le _,rfl,Jh fun i hi=>absurd hi (by omega)⟩
 case round =>
  obtain ⟨k,hk,rfl,hall⟩:=hrel
  by_cases hlt:k<s.size
  ·have hc:=Jh (at8_eq hlt)
   obtain ⟨c,hcd⟩:∃ c,c=s[k]:=⟨_,rfl⟩
   rw [← hcd] at hc
   have hcase:(okC k c∧((97≤(c.toNat:Int)∧(c.toNat:Int)≤122)∨((c.toNat:Int)<97∧0<k∧48≤(c.toNat:Int)∧(c.toNat:Int)≤57)∨((c.toNat:Int)<97∧0<k∧48≤(c.toNat:Int)∧57<(c.toNat:Int)∧((c.toNat:Int) == 95)=true))) ∨
     (¬ okC k c∧(((c.toNat:Int)<97∧¬ 0<k)∨(97≤(c.toNat:Int)∧122<(c.toNat:Int)∧¬ 0<k)∨((c.toNat:Int)<97∧0<k∧(c.toNat:Int)<48∧((c.toNat:Int) == 95)=false)∨((c.toNat:Int)<97∧0<k∧48≤(c.toNat:Int)∧57<(c.toNat:Int)∧((c.toNat:Int) == 95)=false)∨(97≤(c.toNat:Int)∧122<(c.toNat:Int)∧0<k∧48≤(c.toNat:Int)∧57<(c.toNat:Int)∧((c.toNat:Int) == 95)=false))):=by
    have e1:((c.toNat:Int) == 95)=true↔c.toNat=95:=by rw [beq_iff_eq];omega
    have e2:((c.toNat:Int) == 95)=false↔c.toNat≠95:=by rw [beq_eq_false_iff_ne];omega
    unfold okC
    rw [e1,e2]
    omega
   subst hcd
   rcases hcase with ⟨ho,h⟩|⟨ho,h⟩
   ·have Hn:=Jh (name_step hall.out hc.out ho)
    clear ho
    rcases h with ⟨h1,h2⟩|⟨h1,h2,h3,h4⟩|⟨h1,h2,h3,h4,h5⟩
    all_goals
     try (have d122:decide ((s[k].toNat:Int)≤122)=true:=dct (by omega))
     try (have e122:decide ((s[k].toNat:Int)≤122)=false:=dcf (by omega))
     try (have d57:decide ((s[k].toNat:Int)≤57)=true:=dct (by omega))
     try (have e57:decide ((s[k].toNat:Int)≤57)=false:=dcf (by omega))
     go_wp2
     go_round
     case rel=>exact ⟨k+1,by omega,by go_num,Hn⟩
     case measure=>simp [intOf];omega
   ·have Hn:=Jh (name_bad hlt hc.out ho)
    clear ho
    rcases h with ⟨h1,h2⟩|⟨h0,h1,h2⟩|⟨h1,h2,h3,h5⟩|⟨h1,h2,h3,h4,h5⟩|⟨h0,h1,h2,h3,h4,h5⟩
    all_goals
     try (have d122:decide ((s[k].toNat:Int)≤122)=true:=dct (by omega))
     try (have e122:decide ((s[k].toNat:Int)≤122)=false:=dcf (by omega))
     try (have d57:decide ((s[k].toNat:Int)≤57)=true:=dct (by omega))
     try (have e57:decide ((s[k].toNat:Int)≤57)=false:=dcf (by omega))
     go_wp2
     go_ret
     exact ⟨by rw [Hn.out];rfl,rfl⟩
  ·obtain rfl:k=s.size:=by omega
   have hH:(1≤s.size∧s.size≤8∧nameB s=true)∨(¬ 1≤s.size∧nameB s=false)∨(1≤s.size∧¬ s.size≤8∧nameB s=false):=by
    by_cases h1:1≤s.size
    ·by_cases h2:s.size≤8
     ·exact .inl ⟨h1,h2,nameB_yes ⟨h1,h2,hall.out⟩⟩
     ·exact .inr (.inr ⟨h1,h2,nameB_no fun h=>h2 h.2.1⟩)
    ·exact .inr (.inl ⟨h1,nameB_no fun h=>h1 h.1⟩)
   rcases hH with ⟨h1,h2,h3⟩|⟨h1,h3⟩|⟨h1,h2,h3⟩
   all_goals
    have H3:=Jh h3
    clear h3
    try (have d8:decide ((s.size:Int)≤8)=true:=dct (by omega))
    try (have e8:decide ((s.size:Int)≤8)=false:=dcf (by omega))
    go_wp2
    go_ret
    exact ⟨by rw [H3.out];rfl,rfl⟩
theorem letter_calls (c:UInt8) (w:World):Calls Tryz.prog 111 #[.int .u8 (c.toNat:Int)] w fun e w'=>e=.returned (.bool (letterB c))∧w=w':=by
 have hcase:(letterB c=true∧((97≤(c.toNat:Int)∧(c.toNat:Int)≤122)∨((c.toNat:Int)<97∧48≤(c.toNat:Int)∧(c.toNat:Int)≤57)∨((c.toNat:Int)<97∧48≤(c.toNat:Int)∧57<(c.toNat:Int)∧((c.toNat:Int) == 95)=true))) ∨
   (letterB c=false∧(((c.toNat:Int)<97∧(c.toNat:Int)<48∧((c.toNat:Int) == 95)=false)∨((c.toNat:Int)<97∧48≤(c.toNat:Int)∧57<(c.toNat:Int)∧((c.toNat:Int) == 95)=false)∨(97≤(c.toNat:Int)∧122<(c.toNat:Int)∧48≤(c.toNat:Int)∧57<(c.toNat:Int)∧((c.toNat:Int) == 95)=false))):=by
  have e1:((c.toNat:Int) == 95)=true↔c.toNat=95:=by rw [beq_iff_eq];omega
  have e2:((c.toNat:Int) == 95)=false↔c.toNat≠95:=by rw [beq_eq_false_iff_ne];omega
  unfold letterB
  rw [decide_eq_true_iff,decide_eq_false_iff_not,e1,e2]
  omega
 rcases hcase with ⟨hl,h⟩|⟨hl,h⟩
 ·have HL:=Jh hl
  clear hl
  rcases h with ⟨h1,h2⟩|⟨h1,h2,h3⟩|⟨h1,h2,h3,h4⟩
  all_goals
   try (have d122:decide ((c.toNat:Int)≤122)=true:=dct (by omega))
   try (have e122:decide ((c.toNat:Int)≤122)=false:=dcf (by omega))
   try (have d57:decide ((c.toNat:Int)≤57)=true:=dct (by omega))
   try (have e57:decide ((c.toNat:Int)≤57)=false:=dcf (by omega))
   go_enter Tryz.func111,Tryz.ntmps111
   go_wp2
   go_ret
   exact ⟨by rw [HL.out];rfl,rfl⟩
 ·have HL:=Jh hl
  clear hl
  rcases h with ⟨h1,h2,h3⟩|⟨h1,h2,h3,h4⟩|⟨h0,h1,h2,h3,h4⟩
  all_goals
   try (have d122:decide ((c.toNat:Int)≤122)=true:=dct (by omega))
   try (have e122:decide ((c.toNat:Int)≤122)=false:=dcf (by omega))
   try (have d57:decide ((c.toNat:Int)≤57)=true:=dct (by omega))
   try (have e57:decide ((c.toNat:Int)≤57)=false:=dcf (by omega))
   go_enter Tryz.func111,Tryz.ntmps111
   go_wp2
   go_ret
   exact ⟨by rw [HL.out];rfl,rfl⟩
theorem okC_letter {i:Nat} {c:UInt8} (h:okC i c):letterB c=true:=by unfold okC at h;unfold letterB;rw [decide_eq_true_iff];omega
theorem letter_okC {i:Nat} {c:UInt8} (hi:0<i) (h:letterB c=true):okC i c:=by unfold letterB at h;rw [decide_eq_true_iff] at h;unfold okC;omega
set_option maxRecDepth 100000 in
set_option maxHeartbeats 800000 in
theorem nameR_calls (s:ByteArray) (w:World) (hs:s.size≤140737488351232) :
  Calls Tryz.prog 136 #[.string s] w fun e w'=>e=.returned (.bool (nameB s))∧w=w':=by
 by_cases h1:1≤s.size
 ·by_cases h2:s.size≤8
  ·have hc:=Jh (at8_eq (show 0<s.size by omega))
   by_cases haz:97≤(s[0].toNat:Int)∧(s[0].toNat:Int)≤122
   ·obtain ⟨a1,a2⟩:=haz
    have hok0:okC 0 (at8 s 0):=by rw [← hc.out];exact .inl (by omega)
    have hp:0<s.size:=by omega
    go_enter Tryz.func136,Tryz.ntmps136
    have Hok0:=Jh hok0
    clear hok0
    go_wp2
    go_loop [3] (fun i=>∃ k:Nat,k≤s.size∧i=.int .i64 (k:Int)∧Hid (∀ i,i<k→okC i (at8 s i))) (fun i=>s.size-(intOf i).toNat)
    case atStart=>exact ⟨0,Nat.zero_le _,rfl,Jh fun i hi=>absurd hi (by omega)⟩
    case round =>
     obtain ⟨k,hk,rfl,hall⟩:=hrel
     by_cases hlt:k<s.size
     ·have hck:=Jh (at8_eq hlt)
      have hLT:=letter_calls s[k] w
      by_cases hl:letterB s[k]=true
      ·have ho:okC k s[k]:=by
        rcases Nat.eq_zero_or_pos k with h0|h0
        ·subst h0;rw [hck.out];exact Hok0.out
        ·exact letter_okC h0 hl
       have Hn:=Jh (name_step hall.out hck.out ho)
       rw [hl] at hLT
       have HLT:=Jh hLT
       clear ho hl hLT
       go_wp2_with fail
       refine HLT.out.mono ?_
       rintro e w' ⟨rfl,rfl⟩
       go_wp2
       go_round
       case rel=>exact ⟨k+1,by omega,by go_num,Hn⟩
       case measure=>simp [intOf];omega
      ·have Hn:=Jh (name_bad hlt hck.out (fun h=>hl (okC_letter h)))
       rw [show letterB s[k]=false by simpa using hl] at hLT
       have HLT:=Jh hLT
       clear hl hLT
       go_wp2_with fail
       refine HLT.out.mono ?_
       rintro e w' ⟨rfl,rfl⟩
       go_wp2
       go_ret
       exact ⟨by rw [Hn.out];rfl,rfl⟩
     ·obtain rfl:k=s.size:=by omega
      have Hn:=Jh (nameB_yes ⟨h1,h2,hall.out⟩)
      go_wp2
      go_ret
      exact ⟨by rw [Hn.out];rfl,rfl⟩
   ·have Hn:=Jh (name_bad (k:=0) (by omega) hc.out (fun h=>haz (by unfold okC at h;omega)))
    have hz:(s[0].toNat:Int)<97∨(97≤(s[0].toNat:Int)∧122<(s[0].toNat:Int)):=by omega
    have hp:0<s.size:=by omega
    clear haz
    rcases hz with hz|⟨hz,hz2⟩
    all_goals
     go_enter Tryz.func136,Tryz.ntmps136
     go_wp2
     go_ret
     exact ⟨by rw [Hn.out];rfl,rfl⟩
  ·have Hn:=Jh (nameB_no fun h=>h2 h.2.1)
   go_enter Tryz.func136,Tryz.ntmps136
   go_wp2
   go_ret
   exact ⟨by rw [Hn.out];rfl,rfl⟩
 ·have Hn:=Jh (nameB_no fun h=>h1 h.1)
  go_enter Tryz.func136,Tryz.ntmps136
  go_wp2
  go_ret
  exact ⟨by rw [Hn.out];rfl,rfl⟩
end Go.Proofs.YtibnehaibgbliaaGreat.Lb
