/- Laws for the row's walk. -/
import Derived.Maps.RangeWalk
import Derived.Sort.KeysCollected
import Derived.Test.YtibnehaibgbliaaGreatR01
set_option linter.unusedVariables false
set_option linter.unusedSimpArgs false
open Go.Lib renaming hid → Jh
namespace Go.Proofs.YtibnehaibgbliaaGreat
open Go.RowKit
structure KeyT (P:Program) (k:TypeId) (κ:Type) where
 ok:κ→Prop
 val:κ→Value
 lit:κ→Lit
 lt:κ→κ→Bool
 keyed:Go.Maps.Keyed P k
 key:∀ {x},ok x→keyOf P k (val x)=some (lit x)
 inv:∀ {v l},keyOf P k v=some l→∃ x,ok x∧v=val x∧l=lit x
 inj:∀ {x y},lit x=lit y→x=y
 isKey:∀ x,WideAt.IsKeyLit (lit x)
 before:∀ x y,(lit x).before (lit y)=lt x y
def ltS (a b:ByteArray):Bool:=bytesBefore a.data.toList b.data.toList
def strT {P:Program} {k:TypeId} (hk:P.underlying k=some .string):KeyT P k ByteArray where
 ok s:=s.size≤maxLen
 val:=.string
 lit s:=.string s.data.toList
 lt:=ltS
 keyed:=Go.Maps.string_keyed hk
 key h:=_root_.Go.WideMaps.keyOf_string_mk hk h
 inv {v l} h:=by
  cases v<;>simp [keyOf,hk,mapKey] at h
  obtain ⟨h1,rfl⟩:=h
  exact ⟨_,h1,rfl,rfl⟩
 inj {x y} h:=by
  injection h with h
  cases x;cases y
  congr 1
  exact Array.ext' h
 isKey x:=trivial
 before x y:=rfl
section
variable {κ β:Type}
def mins (lt:κ→κ→Bool) (p:κ × β):List (κ × β)→List (κ × β)
 | []=>[p]
 | q::r=>if lt p.1 q.1=true then p::q::r else q::mins lt p r
theorem mins_mem {lt:κ→κ→Bool} {p q:κ × β}:∀ {l:List (κ × β)},q∈mins lt p l↔q=p∨q∈l
 | []=>by simp [mins]
 | a::r=>by
  rw [mins]
  split
  ·simp
  ·rw [List.mem_cons,mins_mem,List.mem_cons]
   constructor
   ·rintro (h|h|h)
    ·exact .inr (.inl h)
    ·exact .inl h
    ·exact .inr (.inr h)
   ·rintro (h|h|h)
    ·exact .inr (.inl h)
    ·exact .inl h
    ·exact .inr (.inr h)
theorem mins_perm {lt:κ→κ→Bool} {p:κ × β}:∀ (l:List (κ × β)),(mins lt p l).Perm (p::l)
 | []=>List.Perm.refl _
 | a::r=>by
  rw [mins]
  split
  ·exact List.Perm.refl _
  ·exact ((mins_perm r).cons a).trans (List.Perm.swap _ _ _)
variable [DecidableEq κ]
def mget (l:List (κ × β)) (x:κ):Option β:=(l.find? fun p=>decide (p.1=x)).map (·.2)
def mdel (l:List (κ × β)) (x:κ):List (κ × β):=l.filter fun p=>decide (p.1≠x)
def mput (lt:κ→κ→Bool) (l:List (κ × β)) (x:κ) (v:β):List (κ × β):=mins lt (x,v) (mdel l x)
theorem mget_none {l:List (κ × β)} {x:κ}:mget l x=none↔∀ p∈l,p.1≠x:=by
 unfold mget
 rw [Option.map_eq_none_iff,List.find?_eq_none]
 exact ⟨fun h p hp=>by simpa using h p hp,fun h p hp=>by simpa using h p hp⟩
theorem mget_mem {l:List (κ × β)} {x:κ} {v:β} (h:mget l x=some v):(x,v)∈l:=by
 unfold mget at h
 obtain ⟨p,hp,rfl⟩:=Option.map_eq_some_iff.1 h
 have h1:=List.find?_some hp
 have h2:=List.mem_of_find?_eq_some hp
 have:p.1=x:=by simpa using h1
 rw [← this]
 exact h2
theorem mdel_ne {l:List (κ × β)} {x:κ}:∀ q∈mdel l x,q.1≠x:=fun q hq=>by simpa using (List.mem_filter.1 hq).2
theorem mput_mem {lt:κ→κ→Bool} {l:List (κ × β)} {x:κ} {v:β} {q:κ × β}:q∈mput lt l x v↔q=(x,v)∨(q∈l∧q.1≠x):=by
 unfold mput mdel
 rw [mins_mem,List.mem_filter]
 simp
end
def rawR (v:Value):Option (DataW Value × List MemPlace):=some (.held v,[])
section
variable {P:Program} {k:TypeId} {κ β:Type}
def encE (K:KeyT P k κ) (ev:β→Value) (p:κ × β):Lit × DataW Value:=(K.lit p.1,.held (ev p.2))
structure MapAt (K:KeyT P k κ) (ev:β→Value) (w:World) (b:Nat) (l:List (κ × β)):Prop where
 own:w.ownsMap P k rawR b l.length (.map (l.map (encE K ev)))
 ok:∀ p∈l,K.ok p.1
variable {K:KeyT P k κ} {ev:β→Value} {w w':World} {b:Nat} {l:List (κ × β)}
theorem enc_insert (p:κ × β):∀ l:List (κ × β),DataW.insert (encE K ev p) (l.map (encE K ev))=(mins K.lt p l).map (encE K ev)
 | []=>rfl
 | q::r=>by
  rw [mins,List.map_cons,DataW.insert]
  show (if (K.lit p.1).before (K.lit q.1)=true then _ else _)=_
  rw [K.before]
  split
  ·rfl
  ·rw [enc_insert p r];rfl
theorem own_tight {n:Nat} {L:List (Lit × DataW Value)} (h:w.ownsMap P k rawR b n (.map L)):w.ownsMap P k rawR b L.length (.map L):=by
 obtain ⟨es,clock,hb,F,hs,hD⟩:=h
 refine ⟨es,clock,hb,F,?_,hD⟩
 injection hD with hD
 rw [hD,length_sorted]
 simp
theorem MapAt.of {n:Nat} (h:w.ownsMap P k rawR b n (.map (l.map (encE K ev)))) (hok:∀ p∈l,K.ok p.1):MapAt K ev w b l :=
 ⟨by have:=own_tight h;rwa [List.length_map] at this,hok⟩
theorem MapAt.new (K:KeyT P k κ) (ev:β→Value) (w:World):MapAt K ev (w.alloc (.map #[] 0)) w.heap.size []:=⟨World.ownsMap_made w P k rawR,fun p hp=>by cases hp⟩
theorem MapAt.lt_ (h:MapAt K ev w b l):b<w.heap.size:=h.own.lt
theorem MapAt.kept {row:Option Nat} (h:MapAt K ev w b l) (hg:w.grownBy w' row) (hne:some b≠row):MapAt K ev w' b l:=⟨h.own.kept hg hne,h.ok⟩
theorem MapAt.below {B:Nat} (h:MapAt K ev w b l) (hb:Below B w w') (hB:b<B):MapAt K ev w' b l:=by
 obtain ⟨⟨es,clock,h1,F,hs,hD⟩,hok⟩:=h
 exact ⟨⟨es,clock,(hb.block b hB).trans h1,F,hs,hD⟩,hok⟩
theorem MapAt.alloc (h:MapAt K ev w b l) (o:Obj):MapAt K ev (w.alloc o) b l:=⟨h.own.alloc o,h.ok⟩
theorem MapAt.srt (h:MapAt K ev w b l):l.Pairwise fun p q=>K.lt p.1 q.1=true:=by
 obtain ⟨es,clock,hb,F,hs,hD⟩:=h.own
 injection hD with hD
 have h1:=WideShapes.rising_pairwise _ (Go.Maps.fit_rising K.keyed F)
 rw [← hD,List.pairwise_map] at h1
 exact h1.imp fun {p q} hpq=>by rw [← K.before];exact hpq
theorem ltK_ne {x y:κ} (h:K.lt x y=true):x≠y:=fun e=>by
 rw [← K.before,e,WideShapes.before_irrefl] at h;cases h
theorem ltK_trans {x y z:κ} (h:K.lt x y=true) (h':K.lt y z=true):K.lt x z=true:=by
 rw [← K.before] at h h' ⊢;exact WideShapes.before_trans h h'
theorem ltK_tot {x y:κ} (hx:K.ok x) (hy:K.ok y) (h:x≠y):K.lt x y=true∨K.lt y x=true:=by
 rw [← K.before,← K.before];exact K.keyed.total (K.key hx) (K.key hy) fun e=>h (K.inj e)
theorem MapAt.nodup (h:MapAt K ev w b l):l.Pairwise fun p q=>p.1≠q.1:=h.srt.imp fun h=>ltK_ne h
variable {t e:TypeId} {z:Value} {x:κ}
theorem MapAt.len_run (h:MapAt K ev w b l) (ht:P.underlying t=some (.map k e)) (ty:TypeId):(Builtin.len_ #[t] ty #[.map (some b)]).run P w=.ok (.int .i64 (l.length:Int)) w:=by
 rw [h.own.len ht ty,Go.Maps.size_eq,List.length_map]
def RangeAt (K:KeyT P k κ) (ev:β→Value) (w:World) (b r:Nat) (l todo:List (κ × β)):Prop :=
 ∃ left,w.ranges P k rawR b r l.length (.map (l.map (encE K ev))) left todo.length∧todo=l.filter (fun p=>left (K.lit p.1))∧∀ p∈l,K.ok p.1
theorem ranges_cnt {r n cnt:Nat} {L:List (Lit × DataW Value)} {left:Lit→Bool} (h:w.ranges P k rawR b r n (.map L) left cnt):cnt=(L.filter fun p=>left p.1).length:=by
 obtain ⟨es,clock,since,seen,c0,hb,F,hs,hD,hr,hold,hc,hl1,_⟩:=h
 injection hD with hD
 rw [hD,((WideShapes.sorted_perm _).filter _).length_eq,← hc,List.filter_map,List.length_map]
 unfold leftOf
 rw [← Array.length_toList,Array.toList_filter]
 congr 1
 refine List.filter_congr fun x hx=>?_
 rw [Function.comp_apply,hl1 x hx]
theorem RangeAt.map {r:Nat} {todo:List (κ × β)} (h:RangeAt K ev w b r l todo):MapAt K ev w b l:=by
 obtain ⟨left,hr,_,hok⟩:=h
 exact ⟨hr.owns,hok⟩
theorem RangeAt.lt {r:Nat} {todo:List (κ × β)} (h:RangeAt K ev w b r l todo):r<w.heap.size:=by
 obtain ⟨left,hr,_,hok⟩:=h
 exact hr.lt
theorem RangeAt.left_eq {r:Nat} {todo:List (κ × β)} (h:RangeAt K ev w b r l todo):w.rangeLeft b r=todo.length:=by
 obtain ⟨left,hr,_,hok⟩:=h
 exact hr.left_eq
theorem RangeAt.kept {r:Nat} {todo:List (κ × β)} {row:Option Nat} (h:RangeAt K ev w b r l todo) (hg:w.grownBy w' row) (h1:some b≠row) (h2:some r≠row):RangeAt K ev w' b r l todo:=by
 obtain ⟨left,hr,ht,hok⟩:=h
 exact ⟨left,hr.kept hg h1 h2,ht,hok⟩
theorem RangeAt.sub {r:Nat} {todo:List (κ × β)} (h:RangeAt K ev w b r l todo):todo.Sublist l:=by
 obtain ⟨left,_,rfl,_⟩:=h
 exact List.filter_sublist
variable [DecidableEq κ]
theorem lit_sameKey (x y:κ):(K.lit x).sameKey (K.lit y)=decide (x=y):=by
 by_cases h:x=y
 ·rw [h,WideAt.sameKey_self (K.isKey y)];simp
 ·rw [Go.Maps.sameKey_ne (fun e=>h (K.inj e))];simp [h]
theorem enc_find (x:κ):∀ l:List (κ × β),(l.map (encE K ev)).find? (fun p=>p.1.sameKey (K.lit x))=(l.find? fun p=>decide (p.1=x)).map (encE K ev):=fun l=>by
 rw [List.find?_map]
 congr 2
 funext p
 exact lit_sameKey p.1 x
theorem enc_atKey (x:κ) (z:Value):(DataW.map (l.map (encE K ev))).atKey (K.lit x) (.held z)=.held ((mget l x).elim z ev):=by
 unfold DataW.atKey mget
 simp only [enc_find]
 cases l.find? fun p=>decide (p.1=x)<;>rfl
theorem enc_has (x:κ):Go.Maps.has (DataW.map (l.map (encE K ev))) (K.lit x)=(mget l x).isSome:=by
 unfold mget
 rw [Option.isSome_map,Go.Maps.has_eq,Bool.eq_iff_iff,List.any_map,List.any_eq_true,List.find?_isSome]
 refine exists_congr fun p=>and_congr_right fun _=>?_
 rw [Function.comp_apply,show (encE K ev p).1=K.lit p.1 from rfl,lit_sameKey]
theorem enc_del (x:κ):(DataW.map (l.map (encE K ev))).del (K.lit x)=.map ((mdel l x).map (encE K ev)):=by
 rw [DataW.del_eq]
 unfold ChangeMaps.delKey mdel
 rw [List.filter_map]
 congr 3
 funext p
 simp only [Function.comp_apply,ChangeMaps.notKey,encE]
 rw [lit_sameKey]
 simp
theorem enc_put (x:κ) (v:β):(DataW.map (l.map (encE K ev))).put (K.lit x) (.held (ev v))=.map ((mput K.lt l x v).map (encE K ev)):=by
 have h:=enc_del (K:=K) (ev:=ev) (l:=l) x
 rw [DataW.del_eq] at h
 injection h with h
 rw [DataW.put_eq]
 unfold ChangeMaps.putKey
 unfold ChangeMaps.delKey at h
 rw [h,show (K.lit x,DataW.held (ev v))=encE K ev (x,v) from rfl,enc_insert]
 rfl
theorem MapAt.get_run (h:MapAt K ev w b l) (ht:P.underlying t=some (.map k e)) (hz:(zeroValue e).run P w=.ok z w) (hx:K.ok x) :
  (Instr.lookup t (.map (some b)) (K.val x) false).run P w=.ok ((mget l x).elim z ev) w:=by
 obtain ⟨v,ps,hr,hv⟩:=h.own.lookup K.keyed ht hz (zd:=.held z) (zp:=[]) rfl (K.key hx)
 rw [enc_atKey] at hv
 unfold rawR at hv
 injection hv with hv
 injection hv with hv _
 injection hv with hv
 rw [hr,hv]
theorem MapAt.ask_run (h:MapAt K ev w b l) (ht:P.underlying t=some (.map k e)) (hz:(zeroValue e).run P w=.ok z w) (hx:K.ok x) :
  (Instr.lookup t (.map (some b)) (K.val x) true).run P w=.ok (.tuple #[(mget l x).elim z ev,.bool (mget l x).isSome]) w:=by
 obtain ⟨v,ps,hr,hv⟩:=h.own.look_ok K.keyed ht hz (zd:=.held z) (zp:=[]) rfl (K.key hx)
 rw [enc_atKey] at hv
 rw [enc_has] at hr
 unfold rawR at hv
 injection hv with hv
 injection hv with hv _
 injection hv with hv
 rw [hr,hv]
theorem MapAt.get_at (h:MapAt K ev w b l) (ht:P.underlying t=some (.map k e)) (hz:(zeroValue e).run P w=.ok z w) (hx:K.ok x) {v:Value} (hv:(mget l x).elim z ev=v) :
  (Instr.lookup t (.map (some b)) (K.val x) false).run P w=.ok v w:=by
 subst hv;exact h.get_run ht hz hx
theorem MapAt.ask_at (h:MapAt K ev w b l) (ht:P.underlying t=some (.map k e)) (hz:(zeroValue e).run P w=.ok z w) (hx:K.ok x) {v:Value} {q:Bool} (hv:(mget l x).elim z ev=v) (hq:(mget l x).isSome=q) :
  (Instr.lookup t (.map (some b)) (K.val x) true).run P w=.ok (.tuple #[v,.bool q]) w:=by
 subst hv hq;exact h.ask_run ht hz hx
theorem MapAt.put_run (h:MapAt K ev w b l) (ht:P.underlying t=some (.map k e)) (hx:K.ok x) (hn:l.length<maxLen) (v:β) :
  ∃ w',(Instr.mapUpdate t (.map (some b)) (K.val x) (ev v)).run P w=.ok () w'∧MapAt K ev w' b (mput K.lt l x v)∧w.grownBy w' (some b)∧w'.heap.size=w.heap.size:=by
 obtain ⟨w',hr,ho,hm⟩:=h.own.store K.keyed ht hn (val:=ev v) (d:=.held (ev v)) (ps:=[]) (K.key hx) rfl
 rw [enc_put] at ho
 refine ⟨w',hr,MapAt.of ho fun p hp=>?_,hm.grown,?_⟩
 ·rcases mput_mem.1 hp with rfl|⟨hp,_⟩
  ·exact hx
  ·exact h.ok p hp
 ·obtain ⟨es,clock,es',clock',hb,rfl⟩:=hm
  simp [ChangeMaps.setBlock]
theorem MapAt.del_run (h:MapAt K ev w b l) (ht:P.underlying t=some (.map k e)) (hx:K.ok x) (ty:TypeId) :
  ∃ w',(Builtin.delete_ #[t,k] ty #[.map (some b),K.val x]).run P w=.ok (.tuple #[]) w'∧MapAt K ev w' b (mdel l x)∧w.grownBy w' (some b)∧w'.heap.size=w.heap.size:=by
 obtain ⟨w',hr,ho,hm⟩:=h.own.drop K.keyed ht (K.key hx) ty
 rw [enc_del] at ho
 refine ⟨w',hr,MapAt.of ho fun p hp=>h.ok p (List.mem_filter.1 hp).1,hm.grown,?_⟩
 obtain ⟨es,clock,es',clock',hb,rfl⟩:=hm
 simp [ChangeMaps.setBlock]
theorem MapAt.range_run (h:MapAt K ev w b l) (ht:P.underlying t=some (.map k e)) :
  ∃ w',(Instr.range t (.map (some b))).run P w=.ok (.pointer (some ⟨w.heap.size,0,none⟩)) w'∧RangeAt K ev w' b w.heap.size l l∧w.grownBy w' none∧w'.heap.size=w.heap.size+1:=by
 obtain ⟨w',hr,hg,h1,h2⟩:=h.own.range K.keyed ht
 rw [Go.Maps.size_eq,List.length_map] at hg
 refine ⟨w',hr,⟨_,hg,?_,h.ok⟩,h1,h2⟩
 refine (List.filter_eq_self.2 fun p hp=>?_).symm
 rw [enc_has,Option.isSome_iff_ne_none]
 intro hn
 exact mget_none.1 hn p hp rfl
theorem RangeAt.next_run {r:Nat} {todo:List (κ × β)} (h:RangeAt K ev w b r l todo) (ty:TypeId) :
  (todo=[]∧(Instr.next (.pointer (some ⟨r,0,none⟩)) false ty).run P w=.ok (.tuple #[.bool false]) w) ∨
  ∃ p w',p∈todo∧(Instr.next (.pointer (some ⟨r,0,none⟩)) false ty).run P w=.ok (.tuple #[.bool true,K.val p.1,ev p.2]) w' ∧
   RangeAt K ev w' b r l (mdel todo p.1)∧(mdel todo p.1).length<todo.length∧w.grownBy w' (some r)∧w'.heap.size=w.heap.size∧(Instr.entry (.pointer (some ⟨r,0,none⟩))).run P w'=.ok (.tuple #[K.val p.1,ev p.2]) w':=by
 have hnd:=h.map.nodup
 obtain ⟨left,hr,rfl,hok⟩:=h
 rcases hr.next K.keyed ty with ⟨h0,hl,hrun⟩|⟨key,v,kl,y,w',cnt',hkey,hlk,hv,hat,hrun,hrg,hlt,hgr,hsz,hen⟩
 ·exact .inl ⟨List.eq_nil_of_length_eq_zero h0,hrun⟩
 ·obtain ⟨x,hx,rfl,rfl⟩:=K.inv hkey
  have hm:Go.Maps.has (DataW.map (l.map (encE K ev))) (K.lit x)=true:=by
   obtain ⟨es,clock,since,seen,c0,hb,F,hs,hD,hr',hold,hc,hl1,hl2,_⟩:=hr
   obtain ⟨m,hm,he⟩:=hl2 _ hlk
   rw [hD]
   exact List.any_eq_true.2 ⟨_,(WideShapes.sorted_perm _).mem_iff.2 (List.mem_map.2 ⟨m,hm,rfl⟩),by rw [he];exact WideAt.sameKey_self (K.isKey x)⟩
  rw [enc_has] at hm
  obtain ⟨u,hu⟩:=Option.isSome_iff_exists.1 hm
  have hu':=mget_mem hu
  have hv1:=hat (.held undef)
  rw [enc_atKey,hu] at hv1
  unfold rawR at hv
  injection hv with hv
  rw [← hv] at hv1
  injection hv1 with hv1
  subst hv1
  have e1:mdel (l.filter fun p=>left (K.lit p.1)) x=l.filter (fun p=>left (K.lit p.1)&&!(K.lit p.1).sameKey (K.lit x)):=by
   unfold mdel
   rw [List.filter_filter]
   refine List.filter_congr fun p hp=>?_
   rw [lit_sameKey]
   simp [Bool.and_comm]
  have e2:=ranges_cnt hrg
  rw [List.filter_map,List.length_map] at e2
  have e3:cnt'=(mdel (l.filter fun p=>left (K.lit p.1)) x).length:=by
   rw [e2,e1];rfl
  refine .inr ⟨(x,u),w',List.mem_filter.2 ⟨hu',hlk⟩,hrun,⟨_,by rw [← e3];exact hrg,e1,hok⟩,by rw [← e3];exact hlt,hgr,hsz,hen⟩
end
section
variable {P:Program} {k:TypeId} {κ β:Type} {K:KeyT P k κ} {ev:β→Value} {b:Nat} {l:List (κ × β)} {t e:TypeId}
variable (w:World) {ops:Array Oper} {rest:List Oper} {o:Oper} {a:Act} {Q:Exit→Act→World→Prop}
end
section
variable {P:Program} {k:TypeId} {κ β:Type} [DecidableEq κ] {K:KeyT P k κ} {ev:β→Value} {b:Nat} {l:List (κ × β)} {t e:TypeId} {z:Value} {x:κ}
variable (w:World) {ops:Array Oper} {rest:List Oper} {o:Oper} {a:Act} {Q:Exit→Act→World→Prop}
theorem wpList_put (hg:o.guard=none) (m xo v:Operand) (hop:o.op=Op.mapUpdate t m xo v) (h:MapAt K ev w b l) (ht:P.underlying t=some (.map k e)) (x:κ) (y:β) (hm:a.eval m=.map (some b)) (hxe:a.eval xo=K.val x) (hv:a.eval v=ev y) (hx:K.ok x) (hn:l.length<maxLen)
  (hK:∀ w',MapAt K ev w' b (mput K.lt l x y)→w.grownBy w' (some b)→w'.heap.size=w.heap.size→wpList P ops Q rest (a.put o.dst undef) w'):wpList P ops Q (o::rest) a w:=by
 refine wpList_plain hg fun K' hK'=>?_
 obtain ⟨w',hrun,r1,r2,r3⟩:=h.put_run ht hx hn y
 unfold Oper.wp
 simp [execOp,hop,hm,hxe,hv,hrun,Result.andThen]
 exact hK' _ _ (hK w' r1 r2 r3)
theorem wpList_range (hg:o.guard=none) (m:Operand) (hop:o.op=Op.range t m) (h:MapAt K ev w b l) (ht:P.underlying t=some (.map k e)) (hm:a.eval m=.map (some b))
  (hK:∀ w',RangeAt K ev w' b w.heap.size l l→w.grownBy w' none→w'.heap.size=w.heap.size+1→wpList P ops Q rest (a.put o.dst (.pointer (some ⟨w.heap.size,0,none⟩))) w'):wpList P ops Q (o::rest) a w:=by
 refine wpList_plain hg fun K' hK'=>?_
 obtain ⟨w',hrun,r1,r2,r3⟩:=h.range_run ht
 unfold Oper.wp
 simp [execOp,hop,hm,hrun,Result.andThen]
 exact hK' _ _ (hK w' r1 r2 r3)
theorem wpList_next {r:Nat} {todo:List (κ × β)} (hg:o.guard=none) (it:Operand) (hop:o.op=Op.next it false) (h:RangeAt K ev w b r l todo) (hit:a.eval it=.pointer (some ⟨r,0,none⟩))
  (hDone:todo=[]→wpList P ops Q rest (a.put o.dst (.tuple #[.bool false])) w)
  (hMore:∀ (x:κ) (y:β) (w':World),(x,y)∈todo→RangeAt K ev w' b r l (mdel todo x)→(mdel todo x).length<todo.length→w.grownBy w' (some r)→w'.heap.size=w.heap.size →
   (Instr.entry (.pointer (some ⟨r,0,none⟩))).run P w'=.ok (.tuple #[K.val x,ev y]) w'→wpList P ops Q rest (a.put o.dst (.tuple #[.bool true,K.val x,ev y])) w'):wpList P ops Q (o::rest) a w:=by
 refine wpList_plain hg fun K' hK'=>?_
 unfold Oper.wp
 rcases h.next_run o.type with ⟨h0,hrun⟩|⟨p,w',hp,hrun,h1,h2,h3,h4,h5⟩
 ·simp [execOp,hop,hit,hrun,Result.andThen]
  exact hK' _ _ (hDone h0)
 ·simp [execOp,hop,hit,hrun,Result.andThen]
  exact hK' _ _ (hMore p.1 p.2 w' hp h1 h2 h3 h4 h5)
end
end Go.Proofs.YtibnehaibgbliaaGreat
namespace Go.Proofs.YtibnehaibgbliaaGreat
open Go.RowKit Go.Sort
theorem before_eq:∀ a b:List UInt8,bytesBefore a b=decide (a<b)
 | [],[]=>by simp [bytesBefore]
 | [],_::_=>by simp [bytesBefore]
 | _::_,[]=>by simp [bytesBefore]
 | a::r,b::s=>by
  rw [bytesBefore,before_eq r s,Bool.eq_iff_iff]
  simp only [Bool.or_eq_true,decide_eq_true_eq,Bool.and_eq_true,beq_iff_eq,List.cons_lt_cons_iff]
theorem ltS_less (a b:ByteArray):ltS a b=Op.bytesLess a.toList b.toList:=by
 unfold ltS
 rw [before_eq,bytesLess_eq,ByteArray.toList_eq,ByteArray.toList_eq]
theorem ltS_irr (a:ByteArray):ltS a a=false:=WideAt.bytes_irrefl _
theorem ltS_trans {a b c:ByteArray} (h:ltS a b=true) (h':ltS b c=true):ltS a c=true:=WideShapes.bytes_trans _ _ _ h h'
theorem ltS_tot {a b:ByteArray} (h:a≠b):ltS a b=true∨ltS b a=true:=WideAt.bytes_total _ _ fun e=>h (WideShapes.bytes_inj e)
theorem strKeys_enc {P:Program} {k:TypeId} {β:Type} (hk:P.underlying k=some .string) (ev:β→Value) (l:List (ByteArray × β)):strKeys (.map (l.map (encE (strT hk) ev)))=l.map fun p=>p.1.data.toList:=by
 show (l.map _).map _=_
 rw [List.map_map];rfl
theorem sorted_keys {P:Program} {k:TypeId} {β:Type} {hk:P.underlying k=some .string} {ev:β→Value} {l:List (ByteArray × β)} (hs:l.Pairwise fun p q=>ltS p.1 q.1=true) {ss:List (List UInt8)} (h:ss.Perm (strKeys (.map (l.map (encE (strT hk) ev))))) :
  (ss.mergeSort fun x y=>decide (x≤y)).map encStr=l.map (fun p=>Value.string p.1)∧ss.length=l.length:=by
 rw [strKeys_enc] at h
 refine ⟨?_,by rw [h.length_eq,List.length_map]⟩
 have e:(l.map fun p=>p.1.data.toList).mergeSort leB=l.map fun p=>p.1.data.toList:=by
  refine List.mergeSort_of_pairwise ?_
  rw [List.pairwise_map]
  refine hs.imp fun {p q} hpq=>?_
  unfold ltS at hpq
  rw [before_eq,decide_eq_true_eq] at hpq
  exact decide_eq_true (List.le_of_lt hpq)
 rw [show (ss.mergeSort fun x y=>decide (x≤y))=_ from mergeSort_of_perm h,e,List.map_map]
 refine List.map_congr_left fun p _=>?_
 show Value.string ⟨p.1.data.toList.toArray⟩=_
 simp
end Go.Proofs.YtibnehaibgbliaaGreat
namespace Go.Proofs.YtibnehaibgbliaaGreat.Mf
open Go.RowKit Go.Proofs.YtibnehaibgbliaaGreat
def gt {α:Type} [Inhabited α] (l:List α) (i:Nat):α:=l.getD i default
theorem gt_eq {α:Type} [Inhabited α] {l:List α} {i:Nat} (h:i<l.length):l[i]=gt l i:=by simp [gt,List.getD,List.getElem?_eq_getElem h]
theorem gt_mem {α:Type} [Inhabited α] {l:List α} {i:Nat} (h:i<l.length):gt l i∈l:=by rw [← gt_eq h];exact List.getElem_mem _
theorem gt_at {α:Type} [Inhabited α] {l:List α} {i:Nat} (h:i<l.length):l[i]?=some (gt l i):=by rw [List.getElem?_eq_getElem h,gt_eq h]
theorem mem_gt {α:Type} [Inhabited α] {l:List α} {x:α} (h:x∈l):∃ i,i<l.length∧gt l i=x:=by
 obtain ⟨i,hi,rfl⟩:=List.getElem_of_mem h
 exact ⟨i,hi,(gt_eq hi).symm⟩
theorem take_gt {α:Type} [Inhabited α] {l:List α} {k:Nat} (hk:k<l.length):l.take (k+1)=l.take k++[gt l k]:=by rw [List.take_succ_eq_append_getElem hk,gt_eq hk]
theorem gt_take {α:Type} [Inhabited α] {l:List α} {i k:Nat} (hi:i<k) (hk:k≤l.length):gt (l.take k) i=gt l i:=by
 rw [← gt_eq (show i<(l.take k).length by rw [List.length_take];omega),← gt_eq (show i<l.length by omega),List.getElem_take]
structure En where
 key:ByteArray
 window:Int
 part:ByteArray
 first:Int
 last:Int
 rows:Int
 size:Int
 sum:Int
 born:Int
deriving Inhabited,DecidableEq
structure Mk where
 maker:Int
 seq:Int
deriving Inhabited,DecidableEq
structure Ow where
 agent:Int
 life:Int
 count:Int
deriving Inhabited,DecidableEq
def En.cs (x:En):List Value:=[.string x.key,.int .i64 x.window,.string x.part,.int .i64 x.first,.int .i64 x.last,.int .i64 x.rows,.int .i64 x.size,.int .u32 x.sum,.int .i64 x.born]
def Mk.cs (x:Mk):List Value:=[.int .i64 x.maker,.int .i64 x.seq]
def Ow.cs (x:Ow):List Value:=[.int .i64 x.agent,.int .i64 x.life,.int .i64 x.count]
structure En.Ok (x:En):Prop where
 key:x.key.size≤140737488351232
 part:x.part.size≤140737488351232
 sum:0≤x.sum∧x.sum≤4294967295
theorem ecs_len (x:En):x.cs.length=9:=rfl
theorem mcs_len (x:Mk):x.cs.length=2:=rfl
theorem ocs_len (x:Ow):x.cs.length=3:=rfl
theorem ecs_one (l:List En):∀ u∈l.flatMap En.cs,u.oneCell'=true:=by
 intro u hu
 obtain ⟨x,_,hx⟩:=List.mem_flatMap.1 hu
 simp [En.cs] at hx
 rcases hx with rfl|rfl|rfl|rfl|rfl|rfl|rfl|rfl|rfl<;>rfl
theorem mcs_one (l:List Mk):∀ u∈l.flatMap Mk.cs,u.oneCell'=true:=by
 intro u hu
 obtain ⟨x,_,hx⟩:=List.mem_flatMap.1 hu
 simp [Mk.cs] at hx
 rcases hx with rfl|rfl<;>rfl
theorem ocs_one (l:List Ow):∀ u∈l.flatMap Ow.cs,u.oneCell'=true:=by
 intro u hu
 obtain ⟨x,_,hx⟩:=List.mem_flatMap.1 hu
 simp [Ow.cs] at hx
 rcases hx with rfl|rfl|rfl<;>rfl
theorem row_at {α:Type} [Inhabited α] {cs:α→List Value} {k:Nat} (hcs:∀ x,(cs x).length=k) {w:World} {B:Nat} {A:Option Addr} {l:List α} (h:Reads w B k A l.length (l.flatMap cs)) (hp:0<l.length) :
  ∃ b off,A=some ⟨b,off,none⟩∧b<B∧∀ i,i<l.length→∀ j v,(cs (gt l i))[j]?=some v→w.cell? ⟨b,off+i*k+j,none⟩=some v:=by
 obtain ⟨b,off,e,hb,hc⟩:=h.2 hp
 refine ⟨b,off,e,hb,fun i hi j v hv=>?_⟩
 have hj:j<k:=by rw [← hcs (gt l i)];exact (List.getElem?_eq_some_iff.1 hv).1
 rw [Nat.add_assoc]
 refine hc _ _ ?_
 rw [flatMap_get hcs l i hi j hj,gt_eq hi,hv]
theorem row_cell {α:Type} [Inhabited α] {cs:α→List Value} {k:Nat} (hcs:∀ x,(cs x).length=k) {w:World} {B b off:Nat} {l:List α} (h:Reads w B k (some ⟨b,off,none⟩) l.length (l.flatMap cs)) {i:Nat} (hi:i<l.length) {j:Nat} {v:Value} (hv:(cs (gt l i))[j]?=some v):w.cell? ⟨b,off+i*k+j,none⟩=some v:=by
 obtain ⟨b',off',e,_,hc⟩:=row_at hcs h (by omega)
 injection e with e
 injection e with e1 e2
 subst e1 e2
 exact hc i hi j v hv
theorem row_addr {k:Nat} {w:World} {B n:Nat} {A:Option Addr} {xs:List Value} (h:Reads w B k A n xs) (hp:0<n):∃ b off,A=some ⟨b,off,none⟩∧b<B:=by
 obtain ⟨b,off,e,hb,_⟩:=h.2 hp
 exact ⟨b,off,e,hb⟩
def Sh (w:World):Prop:=∃ m,w.cell? ⟨0,0,none⟩=some (.int .i64 m)
theorem Sh.lt {w:World} (h:Sh w):0<w.heap.size:=by
 obtain ⟨m,h⟩:=h
 exact World.block_lt_of_cell? w _ h
theorem Sh.below {w w':World} {B:Nat} (h:Sh w) (hb:Below B w w') (hB:0<B):Sh w':=by
 obtain ⟨m,h⟩:=h
 exact ⟨m,(hb.cell (p:=⟨0,0,none⟩) hB).trans h⟩
def numB (n least:Int):Bool:=decide (least≤n)&&decide (n<1099511627776)
def okK (c:UInt8):Prop:=33≤c.toNat∧c.toNat≤126
instance (c:UInt8):Decidable (okK c):=by unfold okK;infer_instance
def KeyP (s:ByteArray):Prop:=1≤s.size∧s.size≤40∧∀ i,i<s.size→okK (Lb.at8 s i)
instance (s:ByteArray):Decidable (KeyP s):=by unfold KeyP;infer_instance
def keyB (s:ByteArray):Bool:=decide (KeyP s)
open Classical in
noncomputable def parB (s:ByteArray):Bool:=decide (∃ l,Lb.ParP s.data.toList l)
noncomputable def enB (x:En):Bool:=parB x.part&&keyB x.key&&numB x.window 0&&decide (0≤x.first)&&decide (x.first≤x.last)&&decide (x.last<1099511627776)&&decide (1≤x.rows)&&decide (x.rows≤2048)&&decide (1≤x.size)&&decide (x.size≤262144)&&numB x.born 0
def mkB (x:Mk):Bool:=decide (1≤x.maker)&&decide (x.maker≤64)&&numB x.seq 1
def owB (x:Ow):Bool:=decide (1≤x.agent)&&decide (x.agent≤8)&&numB x.life 1&&numB x.count 1
def RisP {α:Type} [Inhabited α] (r:α→Bool) (lt:α→α→Bool) (l:List α):Prop:=∀ i,i<l.length→r (gt l i)=true∧(0<i→lt (gt l (i-1)) (gt l i)=true)
instance {α:Type} [Inhabited α] (r:α→Bool) (lt:α→α→Bool) (l:List α):Decidable (RisP r lt l):=by unfold RisP;infer_instance
def risB {α:Type} [Inhabited α] (r:α→Bool) (lt:α→α→Bool) (l:List α):Bool:=decide (RisP r lt l)
def ltE (x y:En):Bool:=ltS x.key y.key
def ltM (x y:Mk):Bool:=decide (x.maker<y.maker)
def ltO (x y:Ow):Bool:=decide (x.agent<y.agent)
def ltP (x y:Mk):Bool:=decide (x.maker*1099511627776+x.seq<y.maker*1099511627776+y.seq)
theorem numB_t {n l:Int} (h:l≤n) (h':n<1099511627776):numB n l=true:=by unfold numB;rw [dct h,dct h'];rfl
theorem numB_f {n l:Int} (h:¬ l≤n):numB n l=false:=by unfold numB;rw [dcf h];rfl
theorem numB_f2 {n l:Int} (h':¬ n<1099511627776):numB n l=false:=by unfold numB;rw [dcf h',Bool.and_false]
theorem numB_iff {n l:Int}:numB n l=true↔l≤n∧n<1099511627776:=by unfold numB;simp
theorem num_calls (n l:Int) (w:World):Calls Tryz.prog 87 #[.int .i64 n,.int .i64 l] w fun e w'=>e=.returned (.bool (numB n l))∧w'=w:=by
 by_cases e0:l≤n
 ·have te0:decide (l≤n)=true:=dct e0
  by_cases e1:n<1099511627776
  ·have te1:decide (n<1099511627776)=true:=dct e1
   have HV:=Jh (numB_t e0 e1)
   clear e0 e1
   go_enter Tryz.func87,Tryz.ntmps87
   go_wp2
   go_ret
   exact ⟨by rw [HV.out];rfl,rfl⟩
  ·have te1:decide (n<1099511627776)=false:=dcf e1
   have HV:Hid (numB n l=false):=Jh (by first|exact numB_f e1|exact numB_f2 e1)
   (try clear e0);(try clear e1)
   go_enter Tryz.func87,Tryz.ntmps87
   go_wp2
   go_ret
   exact ⟨by rw [HV.out];rfl,rfl⟩
 ·have te0:decide (l≤n)=false:=dcf e0
  have HV:Hid (numB n l=false):=Jh (by first|exact numB_f e0|exact numB_f2 e0)
  (try clear e0);(try clear e1)
  go_enter Tryz.func87,Tryz.ntmps87
  go_wp2
  go_ret
  exact ⟨by rw [HV.out];rfl,rfl⟩
theorem numR_calls (n l:Int) (w:World):Calls Tryz.prog 35 #[.int .i64 n,.int .i64 l] w fun e w'=>e=.returned (.bool (numB n l))∧w'=w:=by
 by_cases e0:l≤n
 ·have te0:decide (l≤n)=true:=dct e0
  by_cases e1:n≤1099511627775
  ·have te1:decide (n≤1099511627775)=true:=dct e1
   have HV:=Jh (numB_t e0 (by omega:n<1099511627776))
   clear e0 e1
   go_enter Tryz.func35,Tryz.ntmps35
   go_wp2
   go_ret
   exact ⟨by rw [HV.out];rfl,rfl⟩
  ·have te1:decide (n≤1099511627775)=false:=dcf e1
   have HV:Hid (numB n l=false):=Jh (by first|exact numB_f e1|exact numB_f2 (by omega))
   (try clear e0);(try clear e1)
   go_enter Tryz.func35,Tryz.ntmps35
   go_wp2
   go_ret
   exact ⟨by rw [HV.out];rfl,rfl⟩
 ·have te0:decide (l≤n)=false:=dcf e0
  have HV:Hid (numB n l=false):=Jh (by first|exact numB_f e0|exact numB_f2 (by omega))
  (try clear e0);(try clear e1)
  go_enter Tryz.func35,Tryz.ntmps35
  go_wp2
  go_ret
  exact ⟨by rw [HV.out];rfl,rfl⟩
theorem mark_calls (x:Mk) (w:World):Calls Tryz.prog 92 #[.agg #[.int .i64 x.maker,.int .i64 x.seq]] w fun e w'=>e=.returned (.bool (mkB x))∧Below w.heap.size w w':=by
 have HN:=Jh fun W=>num_calls x.seq 1 W
 have HD:Hid (mkB x=(decide (1≤x.maker)&&decide (x.maker≤64)&&numB x.seq 1)):=Jh rfl
 have HB:Hid (Below w.heap.size w (w.alloc (.cells #[.int .i64 x.maker,.int .i64 x.seq] 90))):=Jh ((Below.refl _ _).alloc (Nat.le_refl _) _)
 generalize mkB x=out at *
 generalize numB x.seq 1=b at *
 by_cases e0:1≤x.maker
 ·have te0:decide (1≤x.maker)=true:=dct e0
  by_cases e1:x.maker≤64
  ·have te1:decide (x.maker≤64)=true:=dct e1
   have HV:Hid (out=b):=Jh (by rw [HD.out,te0,te1];rfl)
   go_enter Tryz.func92,Tryz.ntmps92
   go_wp2_with (go_at_call 87;refine (HN.out _).mono ?_;rintro e w1 ⟨rfl,rfl⟩)
   go_ret
   exact ⟨by rw [HV.out];rfl,HB.out⟩
  ·have te1:decide (x.maker≤64)=false:=dcf e1
   have HV:Hid (out=false):=Jh (by rw [HD.out,te1];simp)
   go_enter Tryz.func92,Tryz.ntmps92
   go_wp2
   go_ret
   exact ⟨by rw [HV.out];rfl,HB.out⟩
 ·have te0:decide (1≤x.maker)=false:=dcf e0
  have HV:Hid (out=false):=Jh (by rw [HD.out,te0];simp)
  go_enter Tryz.func92,Tryz.ntmps92
  go_wp2
  go_ret
  exact ⟨by rw [HV.out];rfl,HB.out⟩
theorem markR_calls (x:Mk) (w:World):Calls Tryz.prog 73 #[.agg #[.int .i64 x.maker,.int .i64 x.seq]] w fun e w'=>e=.returned (.bool (mkB x))∧Below w.heap.size w w':=by
 have HN:=Jh fun W=>numR_calls x.seq 1 W
 have HD:Hid (mkB x=(decide (1≤x.maker)&&decide (x.maker≤64)&&numB x.seq 1)):=Jh rfl
 have HB:Hid (Below w.heap.size w (w.alloc (.cells #[.int .i64 x.maker,.int .i64 x.seq] 90))):=Jh ((Below.refl _ _).alloc (Nat.le_refl _) _)
 generalize mkB x=out at *
 generalize numB x.seq 1=b at *
 by_cases e0:1≤x.maker
 ·have te0:decide (1≤x.maker)=true:=dct e0
  by_cases e1:x.maker≤64
  ·have te1:decide (x.maker≤64)=true:=dct e1
   have HV:Hid (out=b):=Jh (by rw [HD.out,te0,te1];rfl)
   go_enter Tryz.func73,Tryz.ntmps73
   go_wp2_with (go_at_call 35;refine (HN.out _).mono ?_;rintro e w1 ⟨rfl,rfl⟩)
   go_ret
   exact ⟨by rw [HV.out];rfl,HB.out⟩
  ·have te1:decide (x.maker≤64)=false:=dcf e1
   have HV:Hid (out=false):=Jh (by rw [HD.out,te1];simp)
   go_enter Tryz.func73,Tryz.ntmps73
   go_wp2
   go_ret
   exact ⟨by rw [HV.out];rfl,HB.out⟩
 ·have te0:decide (1≤x.maker)=false:=dcf e0
  have HV:Hid (out=false):=Jh (by rw [HD.out,te0];simp)
  go_enter Tryz.func73,Tryz.ntmps73
  go_wp2
  go_ret
  exact ⟨by rw [HV.out];rfl,HB.out⟩
theorem owner_calls (x:Ow) (w:World):Calls Tryz.prog 95 #[.agg #[.int .i64 x.agent,.int .i64 x.life,.int .i64 x.count]] w fun e w'=>e=.returned (.bool (owB x))∧Below w.heap.size w w':=by
 have HN:=Jh fun n l W=>num_calls n l W
 have HD:Hid (owB x=(decide (1≤x.agent)&&decide (x.agent≤8)&&numB x.life 1&&numB x.count 1)):=Jh rfl
 have HB:Hid (Below w.heap.size w (w.alloc (.cells #[.int .i64 x.agent,.int .i64 x.life,.int .i64 x.count] 26))):=Jh ((Below.refl _ _).alloc (Nat.le_refl _) _)
 generalize owB x=out at *
 by_cases e0:1≤x.agent
 ·have te0:decide (1≤x.agent)=true:=dct e0
  by_cases e1:x.agent≤8
  ·have te1:decide (x.agent≤8)=true:=dct e1
   by_cases e2:numB x.life 1=true
   ·have te2:numB x.life 1=true:=e2
    have HV:Hid (out=numB x.count 1):=Jh (by rw [HD.out,te0,te1,te2];rfl)
    clear e2
    go_enter Tryz.func95,Tryz.ntmps95
    go_wp2_with (go_at_call 87;refine (HN.out _ _ _).mono ?_;rintro e w1 ⟨rfl,rfl⟩)
    go_ret
    exact ⟨by rw [HV.out];rfl,HB.out⟩
   ·have te2:numB x.life 1=false:=by simpa using e2
    have HV:Hid (out=false):=Jh (by rw [HD.out,te2];simp)
    (try clear e2)
    go_enter Tryz.func95,Tryz.ntmps95
    go_wp2_with (go_at_call 87;refine (HN.out _ _ _).mono ?_;rintro e w1 ⟨rfl,rfl⟩)
    go_ret
    exact ⟨by rw [HV.out];rfl,HB.out⟩
  ·have te1:decide (x.agent≤8)=false:=dcf e1
   have HV:Hid (out=false):=Jh (by rw [HD.out,te1];simp)
   (try clear e2)
   go_enter Tryz.func95,Tryz.ntmps95
   go_wp2_with (go_at_call 87;refine (HN.out _ _ _).mono ?_;rintro e w1 ⟨rfl,rfl⟩)
   go_ret
   exact ⟨by rw [HV.out];rfl,HB.out⟩
 ·have te0:decide (1≤x.agent)=false:=dcf e0
  have HV:Hid (out=false):=Jh (by rw [HD.out,te0];simp)
  (try clear e2)
  go_enter Tryz.func95,Tryz.ntmps95
  go_wp2_with (go_at_call 87;refine (HN.out _ _ _).mono ?_;rintro e w1 ⟨rfl,rfl⟩)
  go_ret
  exact ⟨by rw [HV.out];rfl,HB.out⟩
theorem ownerR_calls (x:Ow) (w:World):Calls Tryz.prog 38 #[.agg #[.int .i64 x.agent,.int .i64 x.life,.int .i64 x.count]] w fun e w'=>e=.returned (.bool (owB x))∧Below w.heap.size w w':=by
 have HN:=Jh fun n l W=>numR_calls n l W
 have HD:Hid (owB x=(decide (1≤x.agent)&&decide (x.agent≤8)&&numB x.life 1&&numB x.count 1)):=Jh rfl
 have HB:Hid (Below w.heap.size w (w.alloc (.cells #[.int .i64 x.agent,.int .i64 x.life,.int .i64 x.count] 26))):=Jh ((Below.refl _ _).alloc (Nat.le_refl _) _)
 generalize owB x=out at *
 by_cases e0:1≤x.agent
 ·have te0:decide (1≤x.agent)=true:=dct e0
  by_cases e1:x.agent≤8
  ·have te1:decide (x.agent≤8)=true:=dct e1
   by_cases e2:numB x.life 1=true
   ·have te2:numB x.life 1=true:=e2
    have HV:Hid (out=numB x.count 1):=Jh (by rw [HD.out,te0,te1,te2];rfl)
    clear e2
    go_enter Tryz.func38,Tryz.ntmps38
    go_wp2_with (go_at_call 35;refine (HN.out _ _ _).mono ?_;rintro e w1 ⟨rfl,rfl⟩)
    go_ret
    exact ⟨by rw [HV.out];rfl,HB.out⟩
   ·have te2:numB x.life 1=false:=by simpa using e2
    have HV:Hid (out=false):=Jh (by rw [HD.out,te2];simp)
    (try clear e2)
    go_enter Tryz.func38,Tryz.ntmps38
    go_wp2_with (go_at_call 35;refine (HN.out _ _ _).mono ?_;rintro e w1 ⟨rfl,rfl⟩)
    go_ret
    exact ⟨by rw [HV.out];rfl,HB.out⟩
  ·have te1:decide (x.agent≤8)=false:=dcf e1
   have HV:Hid (out=false):=Jh (by rw [HD.out,te1];simp)
   (try clear e2)
   go_enter Tryz.func38,Tryz.ntmps38
   go_wp2_with (go_at_call 35;refine (HN.out _ _ _).mono ?_;rintro e w1 ⟨rfl,rfl⟩)
   go_ret
   exact ⟨by rw [HV.out];rfl,HB.out⟩
 ·have te0:decide (1≤x.agent)=false:=dcf e0
  have HV:Hid (out=false):=Jh (by rw [HD.out,te0];simp)
  (try clear e2)
  go_enter Tryz.func38,Tryz.ntmps38
  go_wp2_with (go_at_call 35;refine (HN.out _ _ _).mono ?_;rintro e w1 ⟨rfl,rfl⟩)
  go_ret
  exact ⟨by rw [HV.out];rfl,HB.out⟩
end Go.Proofs.YtibnehaibgbliaaGreat.Mf
namespace Go.Proofs.YtibnehaibgbliaaGreat.Lb
open Go.RowKit
theorem cell0_below {w w':World} {m:Int} (h:w.cell? ⟨0,0,none⟩=some (.int .i64 m)) (hb:Below w.heap.size w w'):w'.cell? ⟨0,0,none⟩=some (.int .i64 m):=by
 rw [hb.cell (p:=⟨0,0,none⟩) (World.block_lt_of_cell? w _ h)]
 exact h
set_option maxRecDepth 100000 in
set_option maxHeartbeats 3200000 in
theorem parse_calls (s:ByteArray) (w:World) (hs:s.size≤100000) (hm:∃ m,w.cell? ⟨0,0,none⟩=some (.int .i64 m)) :
  Calls Tryz.prog 118 #[.string s] w (ParRet w s.data.toList (.int .i64 0) (.int .i64 4)):=by
 have HL:Hid (s.data.toList.length=s.size):=Jh (by rw [Array.length_toList];rfl)
 by_cases h2:s.size<2
 ·have HN:=Jh (not_par_short (S:=s.data.toList) (by rw [HL.out];exact h2))
  go_enter Tryz.func118,Tryz.ntmps118
  go_wp2
  go_ret2
  exact .inr ⟨rfl,HN.out,Below.refl _ _⟩
 have h2':2≤s.size:=by omega
 have j0:0<s.size:=by omega
 have j1:s.size-1<s.size:=by omega
 have c0:=at8_eq j0
 have c1:=at8_eq j1
 have e1:((s.size:Int)-1).toNat=s.size-1:=by omega
 by_cases h0:((s[0].toNat:Int) == 123)=true
 case neg =>
  have h0':((s[0].toNat:Int) != 123)=true:=by simpa using h0
  have HN:=Jh (not_par_head (S:=s.data.toList) (drop8 j0) (fun e=>h0 (by rw [c0,e];rfl)))
  clear h0 c0 c1
  go_enter Tryz.func118,Tryz.ntmps118
  go_wp2
  go_ret2
  exact .inr ⟨rfl,HN.out,Below.refl _ _⟩
 have h0':((s[0].toNat:Int) != 123)=false:=by simpa using h0
 have g0:at8 s 0=123:=by
  rw [← c0]
  rw [beq_iff_eq] at h0
  exact UInt8.toNat_inj.1 (by show s[0].toNat=123;omega)
 by_cases h1:((s[s.size-1].toNat:Int) == 125)=true
 case neg =>
  have h1':((s[s.size-1].toNat:Int) != 125)=true:=by simpa using h1
  have HN:=Jh (not_par_last (S:=s.data.toList) (k:=s.size-1) (by rw [HL.out];omega) (at8_get j1) (fun e=>h1 (by rw [c1,e];rfl)))
  clear h1 h0 g0 c0 c1
  go_enter Tryz.func118,Tryz.ntmps118
  go_wp2
  go_ret2
  exact .inr ⟨rfl,HN.out,Below.refl _ _⟩
 have h1':((s[s.size-1].toNat:Int) != 125)=false:=by simpa using h1
 have g1:at8 s (s.size-1)=125:=by
  rw [← c1]
  rw [beq_iff_eq] at h1
  exact UInt8.toNat_inj.1 (by show s[s.size-1].toNat=125;omega)
 have HS:=Jh (mid_list h2' g0 g1)
 clear h0 h1 g0 g1 c0 c1
 obtain ⟨m,hm⟩:=hm
 have HM:=Jh hm
 clear hm
 have i1:(1:Int)≤(s.size:Int)-1:=by omega
 have i2:(s.size:Int)-1≤(s.size:Int):=by omega
 have ez:(s.extract 1 (s.size-1)).size≤100000:=by rw [ByteArray.size_extract];omega
 go_enter Tryz.func118,Tryz.ntmps118
 go_wp2
 clear h0' h1'
 generalize s.extract 1 (s.size-1)=t at *
 have HT:Hid (t.data.toList.length=t.size):=Jh (by rw [Array.length_toList];rfl)
 have Hno:Hid (NoSet t.data.toList→∀ l,¬ ParP s.data.toList l):=Jh fun h=>noSet_par h HS.out
 go_loopw [4,5] (fun o a wr=>∃ (q:Nat) (out:List Lab) (A:Option Addr) (co:Nat),o=.slice A out.length co∧a=.int .i64 (q:Int)∧q≤t.size∧out.length≤5∧Hid (St t.data.toList out q)∧Hid (Fit out)∧wr.ownsRow w.heap.size 172 2 (.slice A out.length co) out.length (labCells out)∧Below w.heap.size w wr) (fun _ a _=>t.size-(intOf a).toNat)
 case atStart=>exact ⟨0,[],none,0,rfl,rfl,Nat.zero_le _,by simp,Jh (St.start _),Jh (fun x hx=>by cases hx),World.ownsRow_nil _ _ _ _,Below.refl _ _⟩
 case round =>
  obtain ⟨q,out,A,co,rfl,rfl,hq,ho5,HSt,HFit,hown,hbel⟩:=hrel
  have hsz:=hbel.size
  by_cases hlt:q<t.size
  ·have Hdr:=Jh (drop8 hlt)
   have Hc:=Jh (at8_eq hlt)
   go_upto_if 37 with (fail)
   go_cut [5] (fun a wx=>∃ q':Nat,a=.int .i64 (q':Int)∧q'≤t.size∧q≤q'∧Hid (St2 t.data.toList out q')∧wx=wr)
   case first =>
    by_cases hne:0<out.length
    ·have hne':out≠[]:=by intro e;rw [e] at hne;simp at hne
     by_cases hcm:((t[q].toNat:Int) == 44)=true
     ·have hcm':((t[q].toNat:Int) != 44)=false:=by simpa using hcm
      have HS2:=Jh (HSt.out.comma hne' (X:=t.data.toList.drop (q+1)) (by
       rw [Hdr.out,← Hc.out]
       congr 1
       rw [beq_iff_eq] at hcm
       exact UInt8.toNat_inj.1 (by show t[q].toNat=44;omega)))
      clear hcm hne'
      go_wp2
      go_meet
      case rel=>exact ⟨q+1,by go_num,by omega,by omega,HS2,rfl⟩
     ·have hcm':((t[q].toNat:Int) != 44)=true:=by simpa using hcm
      have HN:=Jh (Hno.out (HSt.out.nocomma hne' Hdr.out (fun e=>hcm (by rw [Hc.out,e];rfl))))
      clear hcm hne'
      go_wp2
      go_ret2
      exact .inr ⟨rfl,HN.out,hbel⟩
    ·have h0:out=[]:=by cases out with
      | nil=>rfl
      | cons x r=>simp at hne
     have HS2:=Jh (St.more0 (by rw [← h0];exact HSt.out) (by rw [HT.out];exact hlt))
     rw [← h0] at HS2
     clear h0
     go_wp2
     go_meet
     case rel=>exact ⟨q,rfl,by omega,by omega,HS2,rfl⟩
   case rest =>
    obtain ⟨q',rfl,hq',hqq,HS2,rfl⟩:=hcut
    clear Hdr Hc hlt
    have hxs:(t.extract q' t.size).size=t.size-q':=by rw [ByteArray.size_extract];omega
    have hxl:(t.extract q' t.size).data.toList=t.data.toList.drop q':=by rw [ext_list,List.take_of_length_le (by rw [List.length_drop,HT.out];omega)]
    have hm':=cell0_below HM.out hbel
    have hidx:=fun W hc=>Tryz.strings_Index (t.extract q' t.size) ⟨#[61,34]⟩ m W (by omega) hc
    rw [hxl] at hidx
    have i1:(q':Int)≤(t.size:Int):=by omega
    have hsz:=hbel.size
    rcases index_eq (t.data.toList.drop q') with ⟨h1,h2⟩|⟨i,h1,h2,h3,h4⟩
    ·have HN:=Jh (Hno.out (HS2.out.noeq h2))
     have hidx2:∀ W,W.cell? ⟨0,0,none⟩=some (.int .i64 m)→Calls Tryz.prog 138 #[.string (t.extract q' t.size),.string ⟨#[61,34]⟩] W fun e w'=>e=.returned (.int .i64 (-1))∧w'=W:=by rw [← h1];exact hidx
     have HI:=Jh hidx2
     clear hidx hidx2 h1 h2 hxl hxs
     go_wp2_with fail
     refine (HI.out _ hm').mono ?_
     rintro e w1 ⟨rfl,rfl⟩
     go_wp2
     go_ret2
     exact .inr ⟨rfl,HN.out,hbel⟩
    ·have hidx2:∀ W,W.cell? ⟨0,0,none⟩=some (.int .i64 m)→Calls Tryz.prog 138 #[.string (t.extract q' t.size),.string ⟨#[61,34]⟩] W fun e w'=>e=.returned (.int .i64 (i:Int))∧w'=W:=by rw [← h1];exact hidx
     have HI:=Jh hidx2
     rw [List.length_drop,HT.out] at h2
     rw [List.drop_drop,show q'+(i+2)=q'+i+2 by omega] at h3
     have Hi:=Jh h3
     have H4:=Jh h4
     have hil:Hid (((t.data.toList.drop q').take i).length=i):=Jh (by rw [List.length_take,List.length_drop,HT.out];omega)
     clear hidx hidx2 h1 h3 h4 hxl hxs
     by_cases h5:4<out.length
     ·have HN:=Jh (Hno.out (HS2.out.many h5))
      have d5:decide ((4:Int)<(out.length:Int))=true:=dct (by omega)
      go_wp2_with fail
      refine (HI.out _ hm').mono ?_
      rintro e w1 ⟨rfl,rfl⟩
      go_wp2
      go_ret2
      exact .inr ⟨rfl,HN.out,hbel⟩
     ·have d5:decide ((4:Int)<(out.length:Int))=false:=dcf (by omega)
      have hval:=fun W=>value_calls t (q'+i+2) W (by omega) (by omega)
      rw [show ((q'+i+2:Nat):Int)=(q':Int)+(i:Int)+2 by omega] at hval
      have HV:=Jh hval
      clear hval
      go_wp2_with fail
      refine (HI.out _ hm').mono ?_
      rintro e w1 ⟨rfl,rfl⟩
      go_wp2_with fail
      refine (HV.out _).mono ?_
      rintro e w1 ⟨hret,hb1⟩
      have s1:=hb1.size
      rcases hret with ⟨v,rfl,hv1,hv2⟩|⟨x,k,rfl,hv⟩
      ·have hvl:=valT_ge v
       rw [HT.out] at hv2
       have hSt:=fun (n:ByteArray) (hn:n.data.toList=(t.data.toList.drop q').take i)=>HS2.out.label Hi.out H4.out hil.out (n:=n) (v:=⟨v.toArray⟩) hn (by simpa using hv1)
       have Hst:=Jh (hSt (t.extract q' (q'+i)) (by rw [ext_list,show q'+i-q'=i by omega]))
       have hns:(t.extract q' (q'+i)).size=i:=by rw [ByteArray.size_extract];omega
       have hvs:(⟨v.toArray⟩:ByteArray).size=v.length:=mk_size v
       have Hfit2:Hid (Fit (out++[(t.extract q' (q'+i),⟨v.toArray⟩)])):=Jh (fun y hy=>by
        rcases List.mem_append.1 hy with hy|hy
        ·exact HFit.out y hy
        ·simp at hy
         subst hy
         exact ⟨by simp only;omega,by simp only;omega⟩)
       have hown1:=own_below hown hb1
       have e9:((q':Int)+(i:Int)).toNat=q'+i:=by omega
       have i9:(q':Int)+(i:Int)≤(t.size:Int):=by omega
       clear hSt hv1 hvs
       have hnn:(⟨v.toArray⟩:ByteArray).data.toList=v:=rfl
       rw [hnn] at Hst
       generalize (⟨v.toArray⟩:ByteArray)=vb at *
       clear hns
       have hrd:Reads (w1.alloc (.cells #[.string (t.extract q' (q'+i)),.string vb] 172)) (w1.heap.size+1) 2 (some ⟨w1.heap.size,0,none⟩) 1 (labCells [(t.extract q' (q'+i),vb)]):=Reads.made (n:=1) (size:=2) w1 #[.string (t.extract q' (q'+i)),.string vb] 172 rfl
       go_wp2_with (at_builtin;go_must (refine wpList_append_sl _ rfl (.tmp 67) (.tmp 76) _ rfl w.heap.size 172 _ 2 32 Tryz.underlying138 Tryz.infoLab rfl (by omega) _ _ _ rfl (hown1.alloc _) (w1.heap.size+1) _ 1 1 (labCells [(t.extract q' (q'+i),vb)]) rfl hrd (labCells_one _) (by unfold maxLen;omega) (by omega) (by simp;omega) ?_))
       intro A2' c2' w2 hc1 hc2 hrd2 hbel2 hown2 _ _
       have hown3:w2.ownsRow w.heap.size 172 2 (.slice A2' (out++[(t.extract q' (q'+i),vb)]).length c2') (out++[(t.extract q' (q'+i),vb)]).length (labCells (out++[(t.extract q' (q'+i),vb)])):=by rw [labCells_app,List.length_append];exact hown2
       have hbe:Below w.heap.size w w2:=((hbel.trans (hb1.mono hsz)).alloc (by omega) _).trans hbel2
       clear hown2 hown1 hown hrd2
       go_wp2
       go_roundw
       case rel=>exact ⟨q'+i+2+(valT v).length+1,out++[(t.extract q' (q'+i),vb)],A2',c2',by simp,by go_num,by omega,by simp;omega,Hst,Hfit2,hown3,hbe⟩
       case measure=>simp [intOf];omega
      ·have HN:=Jh (Hno.out (HS2.out.noval Hi.out H4.out hv))
       clear hv
       go_wp2
       go_ret2
       exact .inr ⟨rfl,HN.out,hbel.trans (hb1.mono hsz)⟩
  ·obtain rfl:q=t.size:=by omega
   have hrd:=Reads.of_own hown
   have hlab:Labs wr wr.heap.size A out:=hrd
   have hRC:=right_calls wr (c:=co) hlab (Nat.le_refl _) HFit.out (by omega)
   have HSt':Hid (St t.data.toList out t.data.toList.length):=Jh (by rw [HT.out];exact HSt.out)
   cases hr:rightB out
   ·have HN:=Jh (Hno.out (HSt'.out.finno hr))
    rw [hr] at hRC
    have HRC:=Jh hRC
    clear hRC hr
    go_wp2_with fail
    refine HRC.out.mono ?_
    rintro e w1 ⟨rfl,hb1⟩
    go_wp2
    go_ret2
    exact .inr ⟨rfl,HN.out,hbel.trans (hb1.mono hsz)⟩
   ·have HP:=Jh (par_of HS.out hr HSt'.out.fin)
    rw [hr] at hRC
    have HRC:=Jh hRC
    clear hRC hr
    go_wp2_with fail
    refine HRC.out.mono ?_
    rintro e w1 ⟨rfl,hb1⟩
    go_wp2
    go_ret2
    exact .inl ⟨out,A,co,rfl,HP.out,(hlab.below hb1).more hb1.size,hbel.trans (hb1.mono hsz)⟩
def ReadRet (S:List UInt8) (p:Nat) (e:Ending):Prop :=
 (∃ c:UInt8,e=.returned (.tuple #[.int .u8 (c.toNat:Int),.int .i64 ((escB c).length:Int)])∧S.drop p=escB c++S.drop (p+(escB c).length)) ∨
 (e=.returned (.tuple #[.int .u8 0,.int .i64 0])∧NoRd (S.drop p))
theorem ext_eq1 {s:ByteArray} {p:Nat} (h:p<s.size):((⟨(escB s[p]).toArray⟩:ByteArray).toList == (s.extract p (p+1)).toList)=plainB s[p]:=by
 rw [bytes_eqd]
 have hx:(s.extract p (p+1)).data.toList=[s[p]]:=by
  rw [ext_list,drop8 h,show p+1-p=1 by omega,at8_eq h]
  rfl
 cases hp:plainB s[p]
 ·refine dcf fun e=>?_
  have:=congrArg (fun z=>z.data.toList.length) e
  simp only [hx] at this
  rw [escB_hex hp] at this
  simp at this
 ·refine dct (bytes_ext ?_)
  rw [hx,escB_plain hp]
theorem ext_eq3 {s:ByteArray} {p:Nat} (h:p+3≤s.size) {x:UInt8} (hx:plainB x=false):((s.extract p (p+3)).toList == (⟨(escB x).toArray⟩:ByteArray).toList)=true↔s.data.toList.drop p=escB x++s.data.toList.drop (p+3):=by
 rw [bytes_eqd,decide_eq_true_iff]
 have hd:(s.extract p (p+3)).data.toList=(s.data.toList.drop p).take 3:=by rw [ext_list,show p+3-p=3 by omega]
 constructor
 ·intro e
  have e2:=congrArg (fun z=>z.data.toList) e
  simp only [hd] at e2
  have e3:s.data.toList.drop (p+3)=(s.data.toList.drop p).drop 3:=by rw [List.drop_drop]
  rw [e3]
  conv=>lhs;rw [← List.take_append_drop 3 (s.data.toList.drop p),e2]
 ·intro e
  refine bytes_ext ?_
  rw [hd,e]
  have:(escB x).length=3:=by rw [escB_len13,hx];rfl
  rw [List.take_append_of_le_length (by omega),List.take_of_length_le (by omega)]
set_option maxRecDepth 100000 in
set_option maxHeartbeats 3200000 in
theorem read_calls (s:ByteArray) (p:Nat) (w:World) (hp:p<s.size) (hs:s.size≤140737488351232) :
  Calls Tryz.prog 112 #[.string s,.int .i64 (p:Int)] w fun e w'=>ReadRet s.data.toList p e∧Below w.heap.size w w':=by
 have HSZ:Hid (s.data.toList.length=s.size):=Jh (by rw [Array.length_toList];rfl)
 have Hdr:=Jh (drop8 hp)
 have Hc:=Jh (at8_eq hp)
 by_cases h92:((s[p].toNat:Int) == 92)=true
 ·have hn:((s[p].toNat:Int) != 92)=false:=by simpa using h92
  have g92:at8 s p=92:=by
   rw [← Hc.out]
   rw [beq_iff_eq] at h92
   exact UInt8.toNat_inj.1 (by show s[p].toNat=92;omega)
  have Hd:Hid (s.data.toList.drop p=92::s.data.toList.drop (p+1)):=Jh (by rw [Hdr.out,g92])
  clear g92 h92
  go_enter Tryz.func112,Tryz.ntmps112
  go_wp2
  go_loopw [6] (fun i wr=>∃ k:Nat,k≤256∧i=.int .i64 (k:Int)∧Hid (∀ j,j<k→∀ r,s.data.toList.drop p≠escB (UInt8.ofNat j)++r)∧Below w.heap.size w wr) (fun i _=>256-(intOf i).toNat)
  case atStart=>exact ⟨0,Nat.zero_le _,rfl,Jh fun j hj=>absurd hj (by omega),Below.refl _ _⟩
  case round =>
   obtain ⟨k,hk,rfl,HK,hbel⟩:=hrel
   have hsz:=hbel.size
   by_cases hlt:k<256
   ·have hx:((UInt8.ofNat k).toNat:Int)=(k:Int):=by rw [UInt8.toNat_ofNat'];omega
    have k0:IntKind.u8.wrap (k:Int)=(k:Int):=by rw [IntKind.wrap_u8];omega
    have hB:=fun W=>byteR_calls (UInt8.ofNat k) W
    rw [hx] at hB
    have Hnext:Hid ((∀ r,s.data.toList.drop p≠escB (UInt8.ofNat k)++r)→∀ j,j<k+1→∀ r,s.data.toList.drop p≠escB (UInt8.ofNat j)++r):=Jh fun h j hj r=>by
     rcases Nat.lt_or_ge j k with h1|h1
     ·exact HK.out j h1 r
     ·obtain rfl:j=k:=by omega
      exact h r
    have hln:=escB_len13 (UInt8.ofNat k)
    have hmk:=mk_size (escB (UInt8.ofNat k))
    by_cases hpl:plainB (UInt8.ofNat k)=true
    ·have HN:=Jh (Hnext.out fun r e=>by
      rw [Hd.out] at e
      rw [(esc92 e).1] at hpl
      cases hpl)
     rw [hpl,if_pos rfl] at hln
     have z1:((⟨(escB (UInt8.ofNat k)).toArray⟩:ByteArray).size:Int)=1:=by omega
     have HB:=Jh hB
     clear hB hln hmk hpl hx
     generalize (⟨(escB (UInt8.ofNat k)).toArray⟩:ByteArray)=bw at *
     have z2:((bw.size:Int) == 3)=false:=eqf (by omega)
     go_wp2_with fail
     refine (HB.out _).mono ?_
     rintro e w1 ⟨rfl,hb1⟩
     go_wp2
     go_roundw
     case rel=>exact ⟨k+1,by omega,by go_num,HN,hbel.trans (hb1.mono hsz)⟩
     case measure=>simp [intOf];omega
    ·have hpl':plainB (UInt8.ofNat k)=false:=by simpa using hpl
     rw [hpl',if_neg (by simp)] at hln
     have z1:((⟨(escB (UInt8.ofNat k)).toArray⟩:ByteArray).size:Int)=3:=by omega
     have HB:=Jh hB
     by_cases hroom:p+3≤s.size
     ·have Hiff:=Jh (ext_eq3 hroom hpl')
      have i3:(3:Int)≤(s.size:Int)-(p:Int):=by omega
      have d3:decide ((3:Int)≤(s.size:Int)-(p:Int))=true:=dct i3
      have e3:((p:Int)+3).toNat=p+3:=by omega
      have i4:(p:Int)+3≤(s.size:Int):=by omega
      by_cases hq:((s.extract p (p+3)).toList == (⟨(escB (UInt8.ofNat k)).toArray⟩:ByteArray).toList)=true
      ·have HR:Hid (s.data.toList.drop p=escB (UInt8.ofNat k)++s.data.toList.drop (p+(escB (UInt8.ofNat k)).length)):=Jh (by rw [hln];exact Hiff.out.1 hq)
       have HL3:=Jh hln
       have HX:=Jh hx
       clear hB hln hmk hpl hpl' hx Hiff i3
       generalize (⟨(escB (UInt8.ofNat k)).toArray⟩:ByteArray)=bw at *
       have z2:((bw.size:Int) == 3)=true:=eqt (by omega)
       go_wp2_with fail
       refine (HB.out _).mono ?_
       rintro e w1 ⟨rfl,hb1⟩
       go_wp2
       go_ret2
       exact ⟨.inl ⟨UInt8.ofNat k,by rw [HL3.out,HX.out];rfl,HR.out⟩,hbel.trans (hb1.mono hsz)⟩
      ·have HN:=Jh (Hnext.out fun r e=>hq (Hiff.out.2 (by
        have e4:=congrArg (List.drop 3) e
        rw [List.drop_drop,List.drop_left' hln] at e4
        rw [e4];exact e)))
       have hq':((s.extract p (p+3)).toList == (⟨(escB (UInt8.ofNat k)).toArray⟩:ByteArray).toList)=false:=by simpa using hq
       clear hB hln hmk hpl hpl' hx Hiff hq i3
       generalize (⟨(escB (UInt8.ofNat k)).toArray⟩:ByteArray)=bw at *
       have z2:((bw.size:Int) == 3)=true:=eqt (by omega)
       go_wp2_with fail
       refine (HB.out _).mono ?_
       rintro e w1 ⟨rfl,hb1⟩
       go_wp2
       go_roundw
       case rel=>exact ⟨k+1,by omega,by go_num,HN,hbel.trans (hb1.mono hsz)⟩
       case measure=>simp [intOf];omega
     ·have HN:=Jh (Hnext.out fun r e=>by
       have:=congrArg List.length e
       rw [List.length_drop,HSZ.out,List.length_append] at this
       omega)
      have d3:decide ((3:Int)≤(s.size:Int)-(p:Int))=false:=dcf (by omega)
      clear hB hln hmk hpl hpl' hx
      generalize (⟨(escB (UInt8.ofNat k)).toArray⟩:ByteArray)=bw at *
      have z2:((bw.size:Int) == 3)=true:=eqt (by omega)
      go_wp2_with fail
      refine (HB.out _).mono ?_
      rintro e w1 ⟨rfl,hb1⟩
      go_wp2
      go_roundw
      case rel=>exact ⟨k+1,by omega,by go_num,HN,hbel.trans (hb1.mono hsz)⟩
      case measure=>simp [intOf];omega
   ·obtain rfl:k=256:=by omega
    have HN:Hid (NoRd (s.data.toList.drop p)):=Jh fun c r e=>by
     have h8:=UInt8.toNat_lt c
     exact HK.out c.toNat (by omega) r (by rw [UInt8.ofNat_toNat];exact e)
    go_wp2
    go_ret2
    exact ⟨.inr ⟨rfl,HN.out⟩,hbel⟩
 ·have hn:((s[p].toNat:Int) != 92)=true:=by simpa using h92
  have h92':at8 s p≠92:=fun e=>h92 (by rw [Hc.out,e];rfl)
  have q:=ext_eq1 hp
  have e1:((p:Int)+1).toNat=p+1:=by omega
  have i1:(p:Int)+1≤(s.size:Int):=by omega
  have i2:(p:Int)≤(p:Int)+1:=by omega
  have i3:(0:Int)≤(p:Int):=by omega
  have k1:IntKind.i64.wrap ((p:Int)+1)=(p:Int)+1:=IntWalk.i64_in _ (by omega)
  have HB:=Jh (fun W=>byteR_calls s[p] W)
  have Hyes:=Jh (fun (h:plainB s[p]=true)=>show s.data.toList.drop p=escB s[p]++s.data.toList.drop (p+(escB s[p]).length) by rw [escB_plain h,Hdr.out,Hc.out];rfl)
  have Hno:=Jh (fun (h:plainB s[p]=false)=>show NoRd (s.data.toList.drop p) by rw [Hdr.out,← Hc.out];exact noRd_bad h (by rw [Hc.out];exact h92'))
  have Hln:=Jh (fun (h:plainB s[p]=true)=>show ((escB s[p]).length:Int)=1 by rw [escB_plain h];rfl)
  clear h92 h92'
  generalize (⟨(escB s[p]).toArray⟩:ByteArray)=bw at *
  generalize hpl:plainB s[p]=pl at *
  cases pl
  ·have HN:=Jh (Hno.out rfl)
   clear Hno Hyes Hln hpl
   go_enter Tryz.func112,Tryz.ntmps112
   go_wp2_with fail
   go_region_held3 (fun w'=>Below w.heap.size w w') (first|exact below_drewN_ (Below.refl _ _) 1|assumption) ((go_at_call 135;refine (HB.out _).mono ?_;rintro en w3 ⟨rfl,hb3⟩;have hHH:=‹Below w.heap.size w _›;have he3:Below w.heap.size w w3:=Below.trans hHH (hb3.mono hHH.size)))
   go_wp2
   go_ret2
   exact ⟨.inr ⟨rfl,HN.out⟩,he3⟩
  ·have HY:=Jh (Hyes.out rfl)
   have HL:=Jh (Hln.out rfl)
   clear Hno Hyes Hln hpl
   go_enter Tryz.func112,Tryz.ntmps112
   go_wp2_with fail
   go_region_held3 (fun w'=>Below w.heap.size w w') (first|exact below_drewN_ (Below.refl _ _) 1|assumption) ((go_at_call 135;refine (HB.out _).mono ?_;rintro en w3 ⟨rfl,hb3⟩;have hHH:=‹Below w.heap.size w _›;have he3:Below w.heap.size w w3:=Below.trans hHH (hb3.mono hHH.size)))
   go_wp2
   go_ret2
   exact ⟨.inl ⟨s[p],by rw [HL.out];rfl,HY.out⟩,he3⟩
end Go.Proofs.YtibnehaibgbliaaGreat.Lb
