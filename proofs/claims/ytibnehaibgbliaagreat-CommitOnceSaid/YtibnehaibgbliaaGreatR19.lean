/- Laws for the row's walk. -/
import Derived.Test.YtibnehaibgbliaaGreatR18
set_option linter.unusedVariables false
set_option linter.unusedSimpArgs false
open Go.Lib renaming hid → Jh
open List renaming getElem?_toArray → Ja, getElem?_cons_zero → Jb, getElem?_cons_succ → Jc, setIfInBounds_toArray → Jd, set_cons_zero → Je, set_cons_succ → Jf, getElem_cons_zero → Jg, getElem_cons_succ → Ji, getElem_toArray → Jk
namespace Go.Proofs.YtibnehaibgbliaaGreat.Mf
open Go.RowKit Go.Proofs.YtibnehaibgbliaaGreat
structure Ob where
 A:Option Addr
 c:Nat
 d:List UInt8
 ver:Int
 born:Int
abbrev Ob.cs (x:Ob):List Value:=[.string manK,.slice x.A x.d.length x.c,.int .i64 x.ver,.int .i64 x.born]
structure S0 (w:World) (base gs:Nat) (now:Int):Prop where
 low:base≤gs
 blk:Blk w gs 72 #[.slice none 0 0,.slice none 0 0,.int .i64 0,.int .i64 0,.int .i64 now]
structure S1 (w:World) (base gs go cO:Nat) (x:Ob) (ver now:Int):Prop where
 low:base≤gs
 blk:Blk w gs 72 #[.slice (some ⟨go,0,none⟩) 1 cO,.slice none 0 0,.int .i64 ver,.int .i64 0,.int .i64 now]
 row:w.ownsRow base 111 4 (.slice (some ⟨go,0,none⟩) 1 cO) 1 x.cs
 dat:w.ownsRow base 5 1 (.slice x.A x.d.length x.c) x.d.length (x.d.map byteV)
 sz:x.d.length≤262144
section
variable {w w':World} {base gs go cO:Nat} {x:Ob} {ver now:Int}
theorem S0.below (h:S0 w base gs now) (hb:Below w.heap.size w w'):S0 w' base gs now:=⟨h.low,h.blk.below hb h.blk.lt⟩
theorem S1.below (h:S1 w base gs go cO x ver now) (hb:Below w.heap.size w w'):S1 w' base gs go cO x ver now:=⟨h.low,h.blk.below hb h.blk.lt,own_below h.row hb,own_below h.dat hb,h.sz⟩
theorem S0.other (h:S0 w base gs now) {k:Nat} {t:TypeId} {cs:Array Value} (ho:Only k w w') (hk:Blk w k t cs) (h0:72≠t):S0 w' base gs now:=⟨h.low,ho.blk h.blk (h.blk.ne_ hk h0)⟩
theorem S1.other (h:S1 w base gs go cO x ver now) {k:Nat} {t:TypeId} {cs:Array Value} (ho:Only k w w') (hk:Blk w k t cs) (h0:72≠t) (h1:111≠t) (h2:5≠t):S1 w' base gs go cO x ver now :=
 ⟨h.low,ho.blk h.blk (h.blk.ne_ hk h0),own_free h.row ho hk h1,own_free h.dat ho hk h2,h.sz⟩
theorem S1.at_ (h:S1 w base gs go cO x ver now):w.cell? ⟨go,0,none⟩=some (.string manK)∧w.cell? ⟨go,1,none⟩=some (.slice x.A x.d.length x.c)∧w.cell? ⟨go,2,none⟩=some (.int .i64 x.ver)∧w.cell? ⟨go,3,none⟩=some (.int .i64 x.born) :=
 ⟨World.ownsRow.cellAt h.row 0 (by omega),World.ownsRow.cellAt h.row 1 (by omega),World.ownsRow.cellAt h.row 2 (by omega),World.ownsRow.cellAt h.row 3 (by omega)⟩
set_option maxRecDepth 100000 in
theorem at0 (w:World) {cs:Array Value} (h:Blk w gs 72 cs) (h0:cs[0]?=some (.slice none 0 0)):Calls Tryz.prog 43 #[.pointer (some ⟨gs,0,none⟩),.string manK] w fun e w'=>e=.returned (.int .i64 (-1))∧w=w':=by
 have z0:=h.cell 0
 rw [h0] at z0
 clear h h0
 go_enter Tryz.func43,Tryz.ntmps43
 go_wp2
 go_loopw [11] (fun vi wr=>vi=.int .i64 0∧w=wr) (fun _ _=>0)
 case atStart=>exact ⟨rfl,rfl⟩
 case round =>
  obtain ⟨rfl,rfl⟩:=hrel
  go_wp2
  go_ret
  exact ⟨rfl,rfl⟩
set_option maxRecDepth 100000 in
theorem at1 (w:World) {cs:Array Value} (h:Blk w gs 72 cs) (h0:cs[0]?=some (.slice (some ⟨go,0,none⟩) 1 cO)) (y0:w.cell? ⟨go,0,none⟩=some (.string manK)):Calls Tryz.prog 43 #[.pointer (some ⟨gs,0,none⟩),.string manK] w fun e w'=>e=.returned (.int .i64 0)∧w=w':=by
 have z0:=h.cell 0
 rw [h0] at z0
 have hk:(manK.toList == manK.toList)=true:=beq_self_eq_true _
 clear h h0
 go_enter Tryz.func43,Tryz.ntmps43
 go_wp2
 go_loopw [11] (fun vi wr=>vi=.int .i64 0∧w=wr) (fun _ _=>0)
 case atStart=>exact ⟨rfl,rfl⟩
 case round =>
  obtain ⟨rfl,rfl⟩:=hrel
  go_wp2
  go_ret
  exact ⟨rfl,rfl⟩
set_option maxRecDepth 100000 in
theorem open_ (w:World) {cs:Array Value} (h:Blk w gs 72 cs) (h1:cs[1]?=some (.slice none 0 0)) (n:Int):Calls Tryz.prog 44 #[.pointer (some ⟨gs,0,none⟩),.int .i64 n] w fun e w'=>e=.returned (.int .i64 (-1))∧w=w':=by
 have z1:=h.cell 1
 rw [h1] at z1
 clear h h1
 go_enter Tryz.func44,Tryz.ntmps44
 go_wp2
 go_loopw [11] (fun vi wr=>vi=.int .i64 0∧w=wr) (fun _ _=>0)
 case atStart=>exact ⟨rfl,rfl⟩
 case round =>
  obtain ⟨rfl,rfl⟩:=hrel
  go_wp2
  go_ret
  exact ⟨rfl,rfl⟩
set_option maxRecDepth 100000 in
theorem size0 (w:World) (h:S0 w base gs now):Calls Tryz.prog 47 #[.pointer (some ⟨gs,0,none⟩)] w fun e w'=>e=.returned (.int .i64 0)∧Below w.heap.size w w':=by
 have z0:=h.blk.cell 0
 have z1:=h.blk.cell 1
 simp only [Ja,Jb,Jc] at z0 z1
 clear h
 go_enter Tryz.func47,Tryz.ntmps47
 go_wp2
 go_loopw [3,13] (fun vn vi wr=>vn=.int .i64 0∧vi=.int .i64 0∧w=wr) (fun _ _ _=>0)
 case atStart=>exact ⟨rfl,rfl,rfl⟩
 case round =>
  obtain ⟨rfl,rfl,rfl⟩:=hrel
  go_wp2
  go_loopw [3,28] (fun vn vi wr=>vn=.int .i64 0∧vi=.int .i64 0∧w=wr) (fun _ _ _=>0)
  case atStart=>exact ⟨rfl,rfl,rfl⟩
  case round =>
   obtain ⟨rfl,rfl,rfl⟩:=hrel
   go_wp2
   go_ret
   exact ⟨rfl,Below.refl _ _⟩
set_option maxRecDepth 100000 in
theorem size1 (w:World) (h:S1 w base gs go cO x ver now):Calls Tryz.prog 47 #[.pointer (some ⟨gs,0,none⟩)] w fun e w'=>e=.returned (.int .i64 (x.d.length:Int))∧Below w.heap.size w w':=by
 have HS:=Jh fun W (hW:Below w.heap.size w W)=>h.below hW
 have hsz:=h.sz
 clear h
 have z0:w.cell? ⟨gs,0,none⟩=some (.slice (some ⟨go,0,none⟩) 1 cO):=(HS.out w (Below.refl _ _)).blk.cell 0
 go_enter Tryz.func47,Tryz.ntmps47
 go_wp2
 clear z0
 go_loopw [3,13] (fun vn vi wr=>∃ i n:Nat,i≤1∧vn=.int .i64 (n:Int)∧vi=.int .i64 (i:Int)∧Hid (n=if i=0 then 0 else x.d.length)∧Hid (Below w.heap.size w wr)) (fun _ vi _=>1-(intOf vi).toNat)
 case atStart=>exact ⟨0,0,by omega,rfl,rfl,Jh rfl,Jh (Below.refl _ _)⟩
 case round =>
  obtain ⟨i,n,hi,rfl,rfl,HN,HB⟩:=hrel
  by_cases h0:i=0
  ·subst h0
   have hn:=HN.out
   rw [if_pos rfl] at hn
   subst hn
   obtain ⟨y0,y1,y2,y3⟩:=(HS.out wr HB.out).at_
   have HB2:=Jh (HB.out.alloc HB.out.size (.cells #[.string manK,.slice x.A x.d.length x.c,.int .i64 x.ver,.int .i64 x.born] 111))
   clear HN HB
   simp only [Int.natCast_zero]
   go_wp2
   go_roundw
   case rel=>exact ⟨1,x.d.length,by omega,by go_num,by go_num,Jh (by rw [if_neg (by omega)]),HB2⟩
   case measure=>simp [intOf]
  ·obtain rfl:i=1:=by omega
   have hn:=HN.out
   rw [if_neg (by omega)] at hn
   subst hn
   have z1:wr.cell? ⟨gs,1,none⟩=some (.slice none 0 0):=(HS.out wr HB.out).blk.cell 1
   clear HN h0
   go_wp2
   go_loopw [3,28] (fun vn vi wz=>vn=.int .i64 (x.d.length:Int)∧vi=.int .i64 0∧wr=wz) (fun _ _ _=>0)
   case atStart=>exact ⟨rfl,rfl,rfl⟩
   case round =>
    obtain ⟨rfl,rfl,rfl⟩:=hrel
    go_wp2
    go_ret
    exact ⟨rfl,HB.out⟩
structure KT (w w':World):Prop where
 size:w.heap.size≤w'.heap.size
 blk:∀ (k:Nat) (cs:Array Value) (t:TypeId) (z:Nat × Nat),w.heap[k]?=some (.cells cs t z)→t≠72→t≠111→w'.heap[k]?=some (.cells cs t z)
theorem KT.of_below (hb:Below w.heap.size w w'):KT w w':=⟨hb.size,fun k cs t z h _ _=>by rw [hb.block k (Array.getElem?_eq_some_iff.1 h).1];exact h⟩
theorem KT.trans {w'':World} (h:KT w w') (h':KT w' w''):KT w w'':=⟨Nat.le_trans h.size h'.size,fun k cs t z e h1 h2=>h'.blk k cs t z (h.blk k cs t z e h1 h2) h1 h2⟩
theorem KT.only {g:Nat} {t:TypeId} {cs:Array Value} (ho:Only g w w') (hk:Blk w g t cs) (ht:t=72∨t=111):KT w w':=⟨ho.size,fun k cs' t' z e h1 h2=>by
 have hne:k≠g:=by
  intro e'
  subst e'
  have h3:w.heap[k]?=some (.cells cs t (0,0)):=hk
  rw [e] at h3
  injection h3 with h3
  injection h3 with _ h3
  rcases ht with h4|h4
  ·exact h1 (h3.trans h4)
  ·exact h2 (h3.trans h4)
 rw [ho.block k (Array.getElem?_eq_some_iff.1 e).1 (fun h=>hne (by injection h))]
 exact e⟩
theorem KT.blk_ (h:KT w w') {g:Nat} {t:TypeId} {cs:Array Value} (hb:Blk w g t cs) (h1:t≠72) (h2:t≠111):Blk w' g t cs:=h.blk g cs t (0,0) hb h1 h2
theorem KT.row (h:KT w w') {base n size:Nat} {e:TypeId} {v:Value} {xs:List Value} (ho:w.ownsRow base e size v n xs) (h1:e≠72) (h2:e≠111):w'.ownsRow base e size v n xs:=by
 refine ⟨ho.1,?_⟩
 rcases ho.2 with hh|⟨g',cap,cur,rfl,hb,hg,hr⟩
 ·exact .inl hh
 ·exact .inr ⟨g',cap,cur,rfl,hb,h.blk g' cur e _ hg h1 h2,hr⟩
abbrev repV (err:Int) (A:Option Addr) (n c:Nat) (ver born:Int):Value:=.agg (repA err A n c ver (.int .i64 born) (.int .i64 0) (.slice none 0 0) (.bool false))
set_option maxRecDepth 100000 in
theorem bad_calls (w:World) (n:Int):Calls Tryz.prog 46 #[.int .i64 n] w fun e w'=>e=.returned (repV n none 0 0 0 0)∧Below w.heap.size w w':=by
 go_enter Tryz.func46,Tryz.ntmps46
 go_wp2
 refine bodyPost_ret (results_cell_row rfl _ _ w.heap.size 42 (repA n none 0 0 0 (.int .i64 0) (.int .i64 0) (.slice none 0 0) (.bool false)) (0,0) _ rfl (Blk.new _ _ _) Tryz.underlying42 rfl (by kernel_rfl)) rfl ?_
 exact ⟨rfl,(Below.refl _ _).alloc (Nat.le_refl _) _⟩
end
theorem Tryz.infoObj:(Tryz.prog.info? 111).map (fun i=>(i.zero,i.size,i.bytes))=some (some (.agg #[.string ⟨#[]⟩,.slice none 0 0,.int .i64 0,.int .i64 0]),4,56):=by kernel_rfl
abbrev rep0:Array Value:=#[.int .i64 0,.slice none 0 0,.int .i64 0,.int .i64 0,.int .i64 0,.slice none 0 0,.bool false]
section
variable {P:Program} {ops:Array Oper} {Q:Exit→Act→World→Prop} {md:Region.Mode} {S:World→Prop} {t:Nat}
theorem wpAnyT_two {i j:Nat} {o p:Oper} {n:Nat} {l:Array Bool} {a:Act} {w:World} (hr:Region.ready md ops l=[i,j]) (ho:ops[i]?=some o) (hp:ops[j]?=some p)
  (h:∀ K:Act→World→Prop,Shut (∀ a w,(i≠t→S w)→wpAnyT P md ops Q S t n (l.setIfInBounds i true) a w→K a w)→if Region.wanted o (yielded ops a.tmps)=true then Oper.wp P o a w K Q else K (a.put o.dst undef) w)
  (h':∀ K:Act→World→Prop,Shut (∀ a w,(j≠t→S w)→wpAnyT P md ops Q S t n (l.setIfInBounds j true) a w→K a w)→if Region.wanted p (yielded ops a.tmps)=true then Oper.wp P p a w K Q else K (a.put p.dst undef) w):wpAnyT P md ops Q S t (n+1) l a w :=
 ⟨fun h0=>absurd (hr ▸ h0) (by simp),fun x hx=>by
  rw [hr] at hx
  rcases List.mem_cons.1 hx with hx|hx
  ·rw [hx];exact wpOp_step ho fun K hK=>h K fun a w h1 h2=>hK a w ⟨h1,h2⟩
  ·rw [List.mem_singleton.1 hx];exact wpOp_step hp fun K hK=>h' K fun a w h1 h2=>hK a w ⟨h1,h2⟩⟩
end
section
variable {w w':World} {base gs go cO:Nat} {x:Ob} {ver now:Int}
def RetPut1 (w:World) (base gs:Nat) (d:List UInt8) (ver now:Int) (e:Ending) (w':World):Prop :=
 ∃ go cO x,e=.returned (repV 0 none 0 0 (ver+1) now)∧S1 w' base gs go cO x (ver+1) now∧x.d=d∧x.ver=ver+1∧x.born=now∧KT w w'∧Below base w w'
def set4 (w:World) (b:Nat) (v0 v1 v2 v3:Value):World:=(((w.setCell ⟨b,0,none⟩ v0).setCell ⟨b,1,none⟩ v1).setCell ⟨b,2,none⟩ v2).setCell ⟨b,3,none⟩ v3
theorem set4_only (w:World) (b:Nat) (v0 v1 v2 v3:Value):Only b w (set4 w b v0 v1 v2 v3):=((((Only.refl b w).setCell (.inl rfl) _).setCell (.inl rfl) _).setCell (.inl rfl) _).setCell (.inl rfl) _
theorem set4_blk {w:World} {g:Nat} {t:TypeId} {a0 a1 a2 a3:Value} (h:Blk w g t #[a0,a1,a2,a3]) (v0 v1 v2 v3:Value):Blk (set4 w g v0 v1 v2 v3) g t #[v0,v1,v2,v3]:=by
 have:=(((h.set_ 0 v0).set_ 1 v1).set_ 2 v2).set_ 3 v3
 simpa [set4] using this
theorem set4_row {w:World} {base go cO:Nat} {a0 a1 a2 a3:Value} (h:w.ownsRow base 111 4 (.slice (some ⟨go,0,none⟩) 1 cO) 1 [a0,a1,a2,a3]) (v0 v1 v2 v3:Value):(set4 w go v0 v1 v2 v3).ownsRow base 111 4 (.slice (some ⟨go,0,none⟩) 1 cO) 1 [v0,v1,v2,v3] :=
 (World.ownsRow.stored (World.ownsRow.stored (World.ownsRow.stored (World.ownsRow.stored h 0 v0).1 1 v1).1 2 v2).1 3 v3).1
theorem row_blk {w:World} {base go cO n size:Nat} {e:TypeId} {xs:List Value} (h:w.ownsRow base e size (.slice (some ⟨go,0,none⟩) n cO) n xs):(∃ cs,Blk w go e cs)∧base≤go:=by
 rcases h.2 with ⟨h',_⟩|⟨g',cap,cur,h',hb,hg,_⟩
 ·simp at h'
 ·simp only [Value.slice.injEq,Option.some.injEq,Addr.mk.injEq,and_true,true_and] at h'
  obtain ⟨rfl,rfl⟩:=h'
  exact ⟨⟨cur,hg⟩,hb⟩
theorem row_form {w:World} {b:Nat} {e:TypeId} {n c size:Nat} {A:Option Addr} {xs:List Value} (h:w.ownsRow b e size (.slice A n c) n xs) (hn:0<n):∃ g,A=some ⟨g,0,none⟩:=by
 rcases h.2 with ⟨_,h0⟩|⟨g,cap,cur,e,hb,hg,_⟩
 ·omega
 ·injection e with e _ _
  exact ⟨g,e⟩
theorem KT.fin {wm:World} {g:Nat} (h:KT w wm) (ho:Only g wm w') (hg:w.heap.size≤g):KT w w':=⟨Nat.le_trans h.size ho.size,fun k cs t z e h1 h2=>by
 have h3:=h.blk k cs t z e h1 h2
 have hk:k<w.heap.size:=(Array.getElem?_eq_some_iff.1 e).1
 rw [ho.block k (Array.getElem?_eq_some_iff.1 h3).1 (fun e'=>by injection e' with e';omega)]
 exact h3⟩
set_option maxRecDepth 100000 in
set_option maxHeartbeats 6400000 in
theorem put1 (w:World) (h:S1 w base gs go cO x ver now) {A:Option Addr} {c:Nat} {d:List UInt8} (hd:∀ w',Only gs w w'→Bytes w' w'.heap.size A d.length d) (hdl:d.length≤262144) (hv0:0≤ver) (hv1:ver≤1000000) (hbw:base≤w.heap.size) :
  Calls Tryz.prog 48 #[.pointer (some ⟨gs,0,none⟩),.string manK,.slice A d.length c] w (RetPut1 w base gs d ver now):=by
 have hS:=h.blk
 have HLow:=Jh h.low
 have HSz:=Jh h.sz
 have HX:=Jh h
 have HBW:=Jh hbw
 clear h hbw
 have HB1:=Jh (hS.alloc (.cells rep0 42))
 have HR1:=Jh (Blk.new w 42 rep0)
 have hgl:gs<w.heap.size:=hS.lt
 have hz1:w.heap.size<(w.alloc (.cells rep0 42)).heap.size:=by simp
 have HW1:Hid (Only gs w (w.alloc (.cells rep0 42))):=Jh ((Only.refl gs w).alloc _)
 go_enter Tryz.func48,Tryz.ntmps48
 go_upto_region 1 with fail
 obtain ⟨gr,hgr⟩:∃ gr,gr=w.heap.size:=⟨_,rfl⟩
 have HGR:Hid (gr=w.heap.size):=Jh hgr
 rw [← hgr] at HR1 hz1 ⊢
 clear hgr
 generalize w.alloc (.cells rep0 42)=w1 at *
 have z2:w1.cell? ⟨gs,2,none⟩=some (.int .i64 ver):=HB1.out.cell 2
 have f2:=HB1.out.frozen 2
 have i1:IntKind.i64.wrap (ver+1)=ver+1:=by rw [IntKind.wrap_i64];omega
 have hb2:=HB1.out.set_ 2 (.int .i64 (ver+1))
 simp only [Jd,Je,Jf] at hb2
 have HB2:=Jh hb2
 have HR2:=Jh (HR1.out.far (p:=⟨gs,2,none⟩) (show gr≠gs by have:=HGR.out;omega) (.int .i64 (ver+1)))
 have HO2:=Jh (HW1.out.setCell (p:=⟨gs,2,none⟩) (.inl rfl) (.int .i64 (ver+1)))
 clear hb2 HB1 HR1 HW1
 go_upto_region 2 with fail
 clear z2 f2 i1
 generalize w1.setCell ⟨gs,2,none⟩ (.int .i64 (ver+1))=w2 at *
 have HD2:=Jh (hd w2 HO2.out)
 have HG2:Hid (gr<w2.heap.size∧gs<w2.heap.size):=Jh ⟨HR2.out.lt,HB2.out.lt⟩
 go_cut [7] from 11 (fun s7 wx=>∃ W9:World,W9=wx∧∃ (g7:Nat) (A':Option Addr) (c':Nat),s7=.pointer (some ⟨g7,0,none⟩)∧Hid (Blk W9 g7 111 #[.string manK,.slice A' d.length c',.int .i64 (ver+1),.int .i64 now])∧Hid (w2.heap.size≤g7)∧Hid (W9.ownsRow w2.heap.size 5 1 (.slice A' d.length c') d.length (d.map byteV))∧Hid (Below w2.heap.size w2 W9))
 case first =>
  have Hk2:Hid (∀ W,Below w2.heap.size w2 W→W.cell? ⟨gs,2,none⟩=some (.int .i64 (ver+1))∧W.cell? ⟨gs,4,none⟩=some (.int .i64 now)):=Jh fun W hW=>⟨(HB2.out.below hW HB2.out.lt).cell 2,(HB2.out.below hW HB2.out.lt).cell 4⟩
  have HTw:=Jh fun W (hW:Below w2.heap.size w2 W)=>(Nu.twin_calls W (c:=c) (HD2.out.below hW) hW.size (by omega))
  refine wp_region_T 13 (fun w'=>w'.cell? ⟨gs,2,none⟩=some (.int .i64 (ver+1))∧w'.cell? ⟨gs,4,none⟩=some (.int .i64 now)) (by kernel_rfl) (Hk2.out _ (below_drewN_ (Below.refl _ _) 1)) (fun hHeld=>?_)
  have HW0:Hid (Below w2.heap.size w2 w2.drew):=Jh (below_drewN_ (Below.refl _ _) 1)
  generalize w2.drew=wd at *
  apply tkT 0
  apply tkT 1
  apply tkT 3
  apply tkT 4
  apply tkT 5
  apply tkT 6
  apply tkT 7
  apply tkT 8
  apply tkT 9
  apply tkT 10
  refine wpAnyT_two (i:=2) (j:=12) (by kernel_rfl) rfl rfl (fun K hK=>?_) (fun K hK=>?_)
  ·go_simp
   refine (HTw.out wd HW0.out).mono ?_
   rintro e w3 hr3
   obtain ⟨A',c',rfl,-,-,-,hb3,hown3⟩:=hr3.opened
   have HW3:=Jh (HW0.out.trans (hb3.mono HW0.out.size))
   have HN3:=Jh (own_base (base':=w2.heap.size) hown3 HW0.out.size)
   have hH3:=Hk2.out _ HW3.out
   refine hK.out _ _ (fun _=>hH3) ?_
   clear hK K hown3 hb3 hHeld hr3
   apply tkT 11
   refine wpAnyT_one (i:=12) (by kernel_rfl) rfl (fun K hK=>?_);go_simp
   have HZ:=Jh (Blk.new w3 111 #[.string ⟨#[]⟩,.slice none 0 0,.int .i64 0,.int .i64 0])
   have hb4:Below w3.heap.size w3 (w3.alloc (.cells #[.string ⟨#[]⟩,.slice none 0 0,.int .i64 0,.int .i64 0] 111)):=(Below.refl _ _).alloc (Nat.le_refl _) _
   have HW4:=Jh (HW3.out.trans (hb4.mono HW3.out.size))
   have HN4:=Jh (own_below HN3.out hb4)
   have hH4:=Hk2.out _ HW4.out
   refine hK.out _ _ (fun _=>hH4) ?_
   clear hK K hb4 hH4 hH3
   obtain ⟨g7,hg7⟩:∃ g7,g7=w3.heap.size:=⟨_,rfl⟩
   have HGL:Hid (w2.heap.size≤g7):=Jh (by rw [hg7];exact HW3.out.size)
   rw [← hg7] at HZ ⊢
   clear hg7 HW3 HN3
   generalize w3.alloc (.cells #[.string ⟨#[]⟩,.slice none 0 0,.int .i64 0,.int .i64 0] 111)=w4 at *
   have x0:=HZ.out.cell 0
   have x1:=HZ.out.cell 1
   have x2:=HZ.out.cell 2
   have x3:=HZ.out.cell 3
   have y0:=HZ.out.frozen 0
   have y1:=HZ.out.frozen 1
   have y2:=HZ.out.frozen 2
   have y3:=HZ.out.frozen 3
   refine wpAnyT_one (i:=13) (by kernel_rfl) rfl (fun K hK=>?_);go_simp
   refine hK.out _ _ (fun h=>absurd rfl h) (wpAnyT_done (by kernel_rfl) ?_ _)
   clear hK K
   have HF:=Jh (set4_blk HZ.out (.string manK) (.slice A' d.length c') (.int .i64 (ver+1)) (.int .i64 now))
   have hon:=set4_only w4 g7 (.string manK) (.slice A' d.length c') (.int .i64 (ver+1)) (.int .i64 now)
   have HNF:=Jh (own_free HN4.out hon HZ.out (by decide))
   have HBF:=Jh (HW4.out.trans (hon.below HGL.out HW4.out.size))
   unfold set4 at HF HNF HBF
   clear hon
   go_wp2
   go_meet
   case rel=>exact ⟨_,rfl,g7,A',c',rfl,HF,HGL,HNF,HBF⟩
  ·go_simp
   have HZ:=Jh (Blk.new wd 111 #[.string ⟨#[]⟩,.slice none 0 0,.int .i64 0,.int .i64 0])
   have hb3:Below wd.heap.size wd (wd.alloc (.cells #[.string ⟨#[]⟩,.slice none 0 0,.int .i64 0,.int .i64 0] 111)):=(Below.refl _ _).alloc (Nat.le_refl _) _
   have HW3:=Jh (HW0.out.trans (hb3.mono HW0.out.size))
   have hH3:=Hk2.out _ HW3.out
   refine hK.out _ _ (fun _=>hH3) ?_
   clear hK K hb3 hHeld
   obtain ⟨g7,hg7⟩:∃ g7,g7=wd.heap.size:=⟨_,rfl⟩
   have HGL:Hid (w2.heap.size≤g7):=Jh (by rw [hg7];exact HW0.out.size)
   rw [← hg7] at HZ ⊢
   clear hg7
   generalize wd.alloc (.cells #[.string ⟨#[]⟩,.slice none 0 0,.int .i64 0,.int .i64 0] 111)=w3 at *
   refine wpAnyT_one (i:=2) (by kernel_rfl) rfl (fun K hK=>?_);go_simp
   refine (HTw.out w3 HW3.out).mono ?_
   rintro e w4 hr4
   obtain ⟨A',c',rfl,-,-,-,hb4,hown4⟩:=hr4.opened
   have HW4:=Jh (HW3.out.trans (hb4.mono HW3.out.size))
   have HZ4:=Jh (HZ.out.below hb4 HZ.out.lt)
   have hH4:=Hk2.out _ HW4.out
   refine hK.out _ _ (fun _=>hH4) ?_
   have HN4:=Jh (own_base (base':=w2.heap.size) hown4 HW3.out.size)
   clear hK K hown4 hb4 hr4 hH3 HZ
   apply tkT 11
   have x0:=HZ4.out.cell 0
   have x1:=HZ4.out.cell 1
   have x2:=HZ4.out.cell 2
   have x3:=HZ4.out.cell 3
   have y0:=HZ4.out.frozen 0
   have y1:=HZ4.out.frozen 1
   have y2:=HZ4.out.frozen 2
   have y3:=HZ4.out.frozen 3
   refine wpAnyT_one (i:=13) (by kernel_rfl) rfl (fun K hK=>?_);go_simp
   refine hK.out _ _ (fun h=>absurd rfl h) (wpAnyT_done (by kernel_rfl) ?_ _)
   clear hK K
   have HF:=Jh (set4_blk HZ4.out (.string manK) (.slice A' d.length c') (.int .i64 (ver+1)) (.int .i64 now))
   have hon:=set4_only w4 g7 (.string manK) (.slice A' d.length c') (.int .i64 (ver+1)) (.int .i64 now)
   have HNF:=Jh (own_free HN4.out hon HZ4.out (by decide))
   have HBF:=Jh (HW4.out.trans (hon.below HGL.out HW4.out.size))
   unfold set4 at HF HNF HBF
   clear hon
   go_wp2
   go_meet
   case rel=>exact ⟨_,rfl,g7,A',c',rfl,HF,HGL,HNF,HBF⟩
 case rest =>
  obtain ⟨W9,rfl,g7,A',c',rfl,HF7,HGL,HN7,HW7⟩:=hcut
  clear HD2
  have HB7:=Jh (HB2.out.below HW7.out HB2.out.lt)
  have HR7:=Jh (HR2.out.below HW7.out HR2.out.lt)
  have hx2:=S1.row HX.out
  have HROW7:=Jh (own_below (own_free (S1.row HX.out) HO2.out (HX.out.blk) (by decide)) HW7.out)
  have y0:W9.cell? ⟨go,0,none⟩=some (.string manK):=World.ownsRow.cellAt HROW7.out 0 (by omega)
  have HAt:=Jh (at1 W9 HB7.out rfl y0)
  clear hx2 hS
  go_wp2_with fail
  refine HAt.out.mono ?_
  rintro e w8 ⟨rfl,rfl⟩
  have z0:W9.cell? ⟨gs,0,none⟩=some (.slice (some ⟨go,0,none⟩) 1 cO):=HB7.out.cell 0
  have m0:W9.cell? ⟨g7,0,none⟩=some (.string manK):=HF7.out.cell 0
  have m1:W9.cell? ⟨g7,1,none⟩=some (.slice A' d.length c'):=HF7.out.cell 1
  have m2:W9.cell? ⟨g7,2,none⟩=some (.int .i64 (ver+1)):=HF7.out.cell 2
  have m3:W9.cell? ⟨g7,3,none⟩=some (.int .i64 now):=HF7.out.cell 3
  have x1:W9.cell? ⟨go,1,none⟩=some (.slice x.A x.d.length x.c):=World.ownsRow.cellAt HROW7.out 1 (by omega)
  have x2:W9.cell? ⟨go,2,none⟩=some (.int .i64 x.ver):=World.ownsRow.cellAt HROW7.out 2 (by omega)
  have x3:W9.cell? ⟨go,3,none⟩=some (.int .i64 x.born):=World.ownsRow.cellAt HROW7.out 3 (by omega)
  have k0:=World.ownsRow.frozenAt HROW7.out 0
  have k1:=World.ownsRow.frozenAt HROW7.out 1
  have k2:=World.ownsRow.frozenAt HROW7.out 2
  have k3:=World.ownsRow.frozenAt HROW7.out 3
  clear HAt
  go_wp2_with fail
  go_still_tail 7,(by kernel_rfl)
  go_upto_region 12 with fail
  have hon:=set4_only W9 go (.string manK) (.slice A' d.length c') (.int .i64 (ver+1)) (.int .i64 now)
  have HDR:Hid (∀ W:World,Below W.heap.size W W.drew):=Jh fun W=>below_drewN_ (Below.refl _ _) 1
  obtain ⟨⟨gcs,hgb⟩,hgo⟩:=row_blk HROW7.out
  have HR9:=Jh (Blk.below (hon.blk HR7.out (HR7.out.ne_ hgb (by decide))) (HDR.out _) (hon.blk HR7.out (HR7.out.ne_ hgb (by decide))).lt)
  have hne7:g7≠go:=by
   have h1:=HGL.out
   have h2:=HG2.out
   have h3:go<w.heap.size:=(HX.out.row.lt go rfl).2
   have h4:=HO2.out.size
   omega
  have HF9:=Jh (Blk.below (hon.blk HF7.out hne7) (HDR.out _) (hon.blk HF7.out hne7).lt)
  have hsb:base≤w2.heap.size:=Nat.le_trans HBW.out HO2.out.size
  have HS9:Hid (S1 (set4 W9 go (.string manK) (.slice A' d.length c') (.int .i64 (ver+1)) (.int .i64 now)).drew base gs go cO ⟨A',c',d,ver+1,now⟩ (ver+1) now):=Jh (S1.below ⟨HLow.out,hon.blk HB7.out (HB7.out.ne_ hgb (by decide)),set4_row HROW7.out _ _ _ _,own_base (own_free HN7.out hon hgb (by decide)) hsb,hdl⟩ (HDR.out _))
  have HK9:Hid (KT w (set4 W9 go (.string manK) (.slice A' d.length c') (.int .i64 (ver+1)) (.int .i64 now)).drew):=Jh ((((KT.only HO2.out HX.out.blk (.inl rfl)).trans (KT.of_below HW7.out)).trans (KT.only hon hgb (.inr rfl))).trans (KT.of_below (HDR.out _)))
  have HBE9:Hid (Below base w (set4 W9 go (.string manK) (.slice A' d.length c') (.int .i64 (ver+1)) (.int .i64 now)).drew):=Jh (((HO2.out.below HLow.out HBW.out).trans ((HW7.out.mono hsb).trans (hon.below hgo (by have:=HW7.out.size;omega)))).trans ((HDR.out _).mono (by have:=HW7.out.size;have:=hon.size;omega)))
  clear x1 x2 x3 y0 k0 k1 k2 k3 z0 m0 m1 m2 m3 hon hgb hgo hne7 hsb HDR HROW7 HB7 HN7 HF7 HR7 HX HSz
  unfold set4 at HR9 HF9 HS9 HK9 HBE9
  generalize ((((W9.setCell ⟨go,0,none⟩ (.string manK)).setCell ⟨go,1,none⟩ (.slice A' d.length c')).setCell ⟨go,2,none⟩ (.int .i64 (ver+1))).setCell ⟨go,3,none⟩ (.int .i64 now)).drew=w9 at *
  have q0:=HR9.out.cell 0
  have q1:=HR9.out.cell 1
  have q2:=HR9.out.cell 2
  have q3:=HR9.out.cell 3
  have q4:=HR9.out.cell 4
  have q5:=HR9.out.cell 5
  have q6:=HR9.out.cell 6
  have f0:=HR9.out.frozen 0
  have f1:=HR9.out.frozen 1
  have f2:=HR9.out.frozen 2
  have f3:=HR9.out.frozen 3
  have f4:=HR9.out.frozen 4
  have f5:=HR9.out.frozen 5
  have f6:=HR9.out.frozen 6
  have m2:=HF9.out.cell 2
  have m3:=HF9.out.cell 3
  simp only [Ja,Jb,Jc] at q0 q1 q2 q3 q4 q5 q6 m2 m3
  go_wp2
  have hs:=set7_blk HR9.out (.int .i64 0) (.slice none 0 0) (.int .i64 (ver+1)) (.int .i64 now) (.int .i64 0) (.slice none 0 0) (.bool false)
  have hon:=set7_self w9 gr (.int .i64 0) (.slice none 0 0) (.int .i64 (ver+1)) (.int .i64 now) (.int .i64 0) (.slice none 0 0) (.bool false)
  have hkt:=HK9.out
  have hbe:=HBE9.out
  have hgr:=HGR.out
  refine bodyPost_ret (results_cell_row rfl _ _ gr 42 (repA 0 none 0 0 (ver+1) (.int .i64 now) (.int .i64 0) (.slice none 0 0) (.bool false)) (0,0) _ rfl hs Tryz.underlying42 rfl (by kernel_rfl)) rfl ?_
  exact ⟨_,_,⟨A',c',d,ver+1,now⟩,rfl,S1.other HS9.out hon HR9.out (by decide) (by decide) (by decide),rfl,rfl,rfl,hkt.fin hon (by omega),hbe.trans (hon.below (by have:=HBW.out;omega) (by have:=hbe.size;have:=HBW.out;omega))⟩
set_option maxRecDepth 100000 in
set_option maxHeartbeats 6400000 in
theorem put0 (w:World) (h:S0 w base gs now) {A:Option Addr} {c:Nat} {d:List UInt8} (hd:∀ w',Only gs w w'→Bytes w' w'.heap.size A d.length d) (hdl:d.length≤262144) (ver:Int) (hver:Hid (ver=0)) (hbw:base≤w.heap.size) :
  Calls Tryz.prog 48 #[.pointer (some ⟨gs,0,none⟩),.string manK,.slice A d.length c] w (RetPut1 w base gs d ver now):=by
 have hv0:0≤ver:=by have:=hver.out;omega
 have hv1:ver≤1000000:=by have:=hver.out;omega
 have hS:Blk w gs 72 #[.slice none 0 0,.slice none 0 0,.int .i64 ver,.int .i64 0,.int .i64 now]:=by rw [hver.out];exact h.blk
 have HLow:=Jh h.low
 have HX:=Jh hS
 have HBW:=Jh hbw
 clear h hbw hver
 have HB1:=Jh (hS.alloc (.cells rep0 42))
 have HR1:=Jh (Blk.new w 42 rep0)
 have hgl:gs<w.heap.size:=hS.lt
 have hz1:w.heap.size<(w.alloc (.cells rep0 42)).heap.size:=by simp
 have HW1:Hid (Only gs w (w.alloc (.cells rep0 42))):=Jh ((Only.refl gs w).alloc _)
 go_enter Tryz.func48,Tryz.ntmps48
 go_upto_region 1 with fail
 obtain ⟨gr,hgr⟩:∃ gr,gr=w.heap.size:=⟨_,rfl⟩
 have HGR:Hid (gr=w.heap.size):=Jh hgr
 rw [← hgr] at HR1 hz1 ⊢
 clear hgr
 generalize w.alloc (.cells rep0 42)=w1 at *
 have z2:w1.cell? ⟨gs,2,none⟩=some (.int .i64 ver):=HB1.out.cell 2
 have f2:=HB1.out.frozen 2
 have i1:IntKind.i64.wrap (ver+1)=ver+1:=by rw [IntKind.wrap_i64];omega
 have hb2:=HB1.out.set_ 2 (.int .i64 (ver+1))
 simp only [Jd,Je,Jf] at hb2
 have HB2:=Jh hb2
 have HR2:=Jh (HR1.out.far (p:=⟨gs,2,none⟩) (show gr≠gs by have:=HGR.out;omega) (.int .i64 (ver+1)))
 have HO2:=Jh (HW1.out.setCell (p:=⟨gs,2,none⟩) (.inl rfl) (.int .i64 (ver+1)))
 clear hb2 HB1 HR1 HW1
 go_upto_region 2 with fail
 clear z2 f2 i1
 generalize w1.setCell ⟨gs,2,none⟩ (.int .i64 (ver+1))=w2 at *
 have HD2:=Jh (hd w2 HO2.out)
 have HG2:Hid (gr<w2.heap.size∧gs<w2.heap.size):=Jh ⟨HR2.out.lt,HB2.out.lt⟩
 go_cut [7] from 11 (fun s7 wx=>∃ W9:World,W9=wx∧∃ (g7:Nat) (A':Option Addr) (c':Nat),s7=.pointer (some ⟨g7,0,none⟩)∧Hid (Blk W9 g7 111 #[.string manK,.slice A' d.length c',.int .i64 (ver+1),.int .i64 now])∧Hid (w2.heap.size≤g7)∧Hid (W9.ownsRow w2.heap.size 5 1 (.slice A' d.length c') d.length (d.map byteV))∧Hid (Below w2.heap.size w2 W9))
 case first =>
  have Hk2:Hid (∀ W,Below w2.heap.size w2 W→W.cell? ⟨gs,2,none⟩=some (.int .i64 (ver+1))∧W.cell? ⟨gs,4,none⟩=some (.int .i64 now)):=Jh fun W hW=>⟨(HB2.out.below hW HB2.out.lt).cell 2,(HB2.out.below hW HB2.out.lt).cell 4⟩
  have HTw:=Jh fun W (hW:Below w2.heap.size w2 W)=>(Nu.twin_calls W (c:=c) (HD2.out.below hW) hW.size (by omega))
  refine wp_region_T 13 (fun w'=>w'.cell? ⟨gs,2,none⟩=some (.int .i64 (ver+1))∧w'.cell? ⟨gs,4,none⟩=some (.int .i64 now)) (by kernel_rfl) (Hk2.out _ (below_drewN_ (Below.refl _ _) 1)) (fun hHeld=>?_)
  have HW0:Hid (Below w2.heap.size w2 w2.drew):=Jh (below_drewN_ (Below.refl _ _) 1)
  generalize w2.drew=wd at *
  apply tkT 0
  apply tkT 1
  apply tkT 3
  apply tkT 4
  apply tkT 5
  apply tkT 6
  apply tkT 7
  apply tkT 8
  apply tkT 9
  apply tkT 10
  refine wpAnyT_two (i:=2) (j:=12) (by kernel_rfl) rfl rfl (fun K hK=>?_) (fun K hK=>?_)
  ·go_simp
   refine (HTw.out wd HW0.out).mono ?_
   rintro e w3 hr3
   obtain ⟨A',c',rfl,-,-,-,hb3,hown3⟩:=hr3.opened
   have HW3:=Jh (HW0.out.trans (hb3.mono HW0.out.size))
   have HN3:=Jh (own_base (base':=w2.heap.size) hown3 HW0.out.size)
   have hH3:=Hk2.out _ HW3.out
   refine hK.out _ _ (fun _=>hH3) ?_
   clear hK K hown3 hb3 hHeld hr3
   apply tkT 11
   refine wpAnyT_one (i:=12) (by kernel_rfl) rfl (fun K hK=>?_);go_simp
   have HZ:=Jh (Blk.new w3 111 #[.string ⟨#[]⟩,.slice none 0 0,.int .i64 0,.int .i64 0])
   have hb4:Below w3.heap.size w3 (w3.alloc (.cells #[.string ⟨#[]⟩,.slice none 0 0,.int .i64 0,.int .i64 0] 111)):=(Below.refl _ _).alloc (Nat.le_refl _) _
   have HW4:=Jh (HW3.out.trans (hb4.mono HW3.out.size))
   have HN4:=Jh (own_below HN3.out hb4)
   have hH4:=Hk2.out _ HW4.out
   refine hK.out _ _ (fun _=>hH4) ?_
   clear hK K hb4 hH4 hH3
   obtain ⟨g7,hg7⟩:∃ g7,g7=w3.heap.size:=⟨_,rfl⟩
   have HGL:Hid (w2.heap.size≤g7):=Jh (by rw [hg7];exact HW3.out.size)
   rw [← hg7] at HZ ⊢
   clear hg7 HW3 HN3
   generalize w3.alloc (.cells #[.string ⟨#[]⟩,.slice none 0 0,.int .i64 0,.int .i64 0] 111)=w4 at *
   have x0:=HZ.out.cell 0
   have x1:=HZ.out.cell 1
   have x2:=HZ.out.cell 2
   have x3:=HZ.out.cell 3
   have y0:=HZ.out.frozen 0
   have y1:=HZ.out.frozen 1
   have y2:=HZ.out.frozen 2
   have y3:=HZ.out.frozen 3
   refine wpAnyT_one (i:=13) (by kernel_rfl) rfl (fun K hK=>?_);go_simp
   refine hK.out _ _ (fun h=>absurd rfl h) (wpAnyT_done (by kernel_rfl) ?_ _)
   clear hK K
   have HF:=Jh (set4_blk HZ.out (.string manK) (.slice A' d.length c') (.int .i64 (ver+1)) (.int .i64 now))
   have hon:=set4_only w4 g7 (.string manK) (.slice A' d.length c') (.int .i64 (ver+1)) (.int .i64 now)
   have HNF:=Jh (own_free HN4.out hon HZ.out (by decide))
   have HBF:=Jh (HW4.out.trans (hon.below HGL.out HW4.out.size))
   unfold set4 at HF HNF HBF
   clear hon
   go_wp2
   go_meet
   case rel=>exact ⟨_,rfl,g7,A',c',rfl,HF,HGL,HNF,HBF⟩
  ·go_simp
   have HZ:=Jh (Blk.new wd 111 #[.string ⟨#[]⟩,.slice none 0 0,.int .i64 0,.int .i64 0])
   have hb3:Below wd.heap.size wd (wd.alloc (.cells #[.string ⟨#[]⟩,.slice none 0 0,.int .i64 0,.int .i64 0] 111)):=(Below.refl _ _).alloc (Nat.le_refl _) _
   have HW3:=Jh (HW0.out.trans (hb3.mono HW0.out.size))
   have hH3:=Hk2.out _ HW3.out
   refine hK.out _ _ (fun _=>hH3) ?_
   clear hK K hb3 hHeld
   obtain ⟨g7,hg7⟩:∃ g7,g7=wd.heap.size:=⟨_,rfl⟩
   have HGL:Hid (w2.heap.size≤g7):=Jh (by rw [hg7];exact HW0.out.size)
   rw [← hg7] at HZ ⊢
   clear hg7
   generalize wd.alloc (.cells #[.string ⟨#[]⟩,.slice none 0 0,.int .i64 0,.int .i64 0] 111)=w3 at *
   refine wpAnyT_one (i:=2) (by kernel_rfl) rfl (fun K hK=>?_);go_simp
   refine (HTw.out w3 HW3.out).mono ?_
   rintro e w4 hr4
   obtain ⟨A',c',rfl,-,-,-,hb4,hown4⟩:=hr4.opened
   have HW4:=Jh (HW3.out.trans (hb4.mono HW3.out.size))
   have HZ4:=Jh (HZ.out.below hb4 HZ.out.lt)
   have hH4:=Hk2.out _ HW4.out
   refine hK.out _ _ (fun _=>hH4) ?_
   have HN4:=Jh (own_base (base':=w2.heap.size) hown4 HW3.out.size)
   clear hK K hown4 hb4 hr4 hH3 HZ
   apply tkT 11
   have x0:=HZ4.out.cell 0
   have x1:=HZ4.out.cell 1
   have x2:=HZ4.out.cell 2
   have x3:=HZ4.out.cell 3
   have y0:=HZ4.out.frozen 0
   have y1:=HZ4.out.frozen 1
   have y2:=HZ4.out.frozen 2
   have y3:=HZ4.out.frozen 3
   refine wpAnyT_one (i:=13) (by kernel_rfl) rfl (fun K hK=>?_);go_simp
   refine hK.out _ _ (fun h=>absurd rfl h) (wpAnyT_done (by kernel_rfl) ?_ _)
   clear hK K
   have HF:=Jh (set4_blk HZ4.out (.string manK) (.slice A' d.length c') (.int .i64 (ver+1)) (.int .i64 now))
   have hon:=set4_only w4 g7 (.string manK) (.slice A' d.length c') (.int .i64 (ver+1)) (.int .i64 now)
   have HNF:=Jh (own_free HN4.out hon HZ4.out (by decide))
   have HBF:=Jh (HW4.out.trans (hon.below HGL.out HW4.out.size))
   unfold set4 at HF HNF HBF
   clear hon
   go_wp2
   go_meet
   case rel=>exact ⟨_,rfl,g7,A',c',rfl,HF,HGL,HNF,HBF⟩
 case rest =>
  obtain ⟨W9,rfl,g7,A',c',rfl,HF7,HGL,HN7,HW7⟩:=hcut
  clear HD2
  have HB7:=Jh (HB2.out.below HW7.out HB2.out.lt)
  have HR7:=Jh (HR2.out.below HW7.out HR2.out.lt)
  have HAt:=Jh (at0 W9 HB7.out rfl)
  clear hS
  go_wp2_with fail
  refine HAt.out.mono ?_
  rintro e w8 ⟨rfl,rfl⟩
  have z0:W9.cell? ⟨gs,0,none⟩=some (.slice none 0 0):=HB7.out.cell 0
  clear HAt
  have hgl7:=HB7.out.lt
  go_wp2
  go_loopw [9] (fun vn wr=>vn=.int .i64 0∧W9=wr) (fun _ _=>0)
  case atStart=>exact ⟨rfl,rfl⟩
  case round =>
   obtain ⟨rfl,rfl⟩:=hrel
   go_upto_region 9 with fail
   have ho9:=World.ownsRow_made (base:=W9.heap.size) (e:=111) (size:=4) W9 #[] 0 (Nat.le_refl _) (Nat.zero_le _) rfl
   go_wp2_with (at_builtin;go_must (refine wpList_append_sl _ rfl (.tmp 64) (.tmp 70) _ rfl W9.heap.size 111 _ 4 56 Tryz.underlying69 Tryz.infoObj rfl (by omega) _ _ _ rfl ho9 0 none 0 0 [] rfl Reads.none_ (fun u hu=>by cases hu) (by unfold maxLen;omega) (by omega) (by simp) ?_))
   intro A10 c10 w10 hc101 hc102 hbel10 hown10 hgr10;try intro _
   have hown10':w10.ownsRow W9.heap.size 111 4 (.slice A10 0 c10) 0 []:=by simpa using hown10
   have hb10:Below W9.heap.size W9 w10:=((Below.refl _ _).alloc (Nat.le_refl _) _).trans hbel10
   have HO10:=Jh hown10'
   have HW10:=Jh hb10
   have hf10:=HF7.out.below hb10 HF7.out.lt
   have n0:w10.cell? ⟨g7,0,none⟩=some (.string manK):=hf10.cell 0
   have n1:w10.cell? ⟨g7,1,none⟩=some (.slice A' d.length c'):=hf10.cell 1
   have n2:w10.cell? ⟨g7,2,none⟩=some (.int .i64 (ver+1)):=hf10.cell 2
   have n3:w10.cell? ⟨g7,3,none⟩=some (.int .i64 now):=hf10.cell 3
   have hs10:=hb10.size
   clear hown10 hown10' hbel10 hb10 hc101 hc102 hf10 z0 ho9
   go_wp2_with (at_builtin;go_must (refine wpList_append_sl _ rfl (.tmp 72) (.tmp 74) _ rfl W9.heap.size 111 _ 4 56 Tryz.underlying69 Tryz.infoObj rfl (by omega) _ _ _ rfl (HO10.out.alloc _) (w10.heap.size+1) _ 1 1 (Ob.cs ⟨A',c',d,ver+1,now⟩) rfl (Reads.made (n:=1) (size:=4) w10 _ _ rfl) (by intro u hu;simp at hu;rcases hu with rfl|rfl|rfl|rfl<;>rfl) (by unfold maxLen;omega) (by omega) (by simp;omega) ?_))
   intro A11 c11 w11 hc111 hc112 hrd11 hbel11 hown11 hgr11;try intro _
   have hown11':w11.ownsRow W9.heap.size 111 4 (.slice A11 1 c11) 1 (Ob.cs ⟨A',c',d,ver+1,now⟩):=by simpa using hown11
   have hb11:Below W9.heap.size W9 w11:=(HW10.out.alloc hs10 _).trans hbel11
   have HO11:=Jh hown11'
   have HW11:=Jh hb11
   have z0:w11.cell? ⟨gs,0,none⟩=some (.slice none 0 0):=(HB7.out.below hb11 hgl7).cell 0
   have hs11:=hb11.size
   clear hown11 hown11' hrd11 hbel11 hb11 hc111 hc112 n0 n1 n2 n3 HO10 HW10
   go_wp2_with (at_builtin;go_must (refine wpList_append_sl _ rfl (.tmp 77) (.tmp 83) _ rfl W9.heap.size 111 _ 4 56 Tryz.underlying69 Tryz.infoObj rfl (by omega) _ _ _ rfl HO11.out 0 none 0 0 [] rfl Reads.none_ (fun u hu=>by cases hu) (by unfold maxLen;omega) (by omega) (by omega) ?_))
   intro A12 c12 w12 hc121 hc122 hrd12 hbel12 hown12 hgr12;try intro _
   have hown12':w12.ownsRow W9.heap.size 111 4 (.slice A12 1 c12) 1 (Ob.cs ⟨A',c',d,ver+1,now⟩):=by simpa using hown12
   have hb12:Below W9.heap.size W9 w12:=HW11.out.trans hbel12
   have hB12:=HB7.out.below hb12 hgl7
   have z1:w12.cell? ⟨gs,0,none⟩=some (.slice none 0 0):=hB12.cell 0
   have f1:=hB12.frozen 0
   have HO12:=Jh hown12'
   have HW12:=Jh hb12
   have HBB:=Jh hB12
   clear hown12 hown12' hrd12 hbel12 hb12 hB12 hc121 hc122 z0 HO11 HW11
   obtain ⟨go,rfl⟩:=row_form HO12.out (by omega)
   go_upto_region 12 with fail
   have hon:Only gs w12 (w12.setCell ⟨gs,0,none⟩ (.slice (some ⟨go,0,none⟩) 1 c12)):=(Only.refl gs w12).setCell (.inl rfl) _
   have hbs:=HBB.out.set_ 0 (.slice (some ⟨go,0,none⟩) 1 c12)
   simp only [Jd,Je,Jf] at hbs
   have hr12:=HR7.out.below HW12.out HR7.out.lt
   have hf12:=HF7.out.below HW12.out HF7.out.lt
   have hn12:=own_below HN7.out HW12.out
   have HR9:=Jh (hon.blk hr12 (hr12.ne_ HBB.out (by decide)))
   have HF9:=Jh (hon.blk hf12 (hf12.ne_ HBB.out (by decide)))
   have hsb:base≤w2.heap.size:=Nat.le_trans HBW.out HO2.out.size
   have hsb9:base≤W9.heap.size:=Nat.le_trans hsb HW7.out.size
   have HS9:Hid (S1 (w12.setCell ⟨gs,0,none⟩ (.slice (some ⟨go,0,none⟩) 1 c12)) base gs go c12 ⟨A',c',d,ver+1,now⟩ (ver+1) now):=Jh ⟨HLow.out,hbs,own_base (own_free HO12.out hon HBB.out (by decide)) hsb9,own_base (own_free hn12 hon HBB.out (by decide)) hsb,hdl⟩
   have HK9:Hid (KT w (w12.setCell ⟨gs,0,none⟩ (.slice (some ⟨go,0,none⟩) 1 c12))):=Jh ((((KT.only HO2.out HX.out (.inl rfl)).trans (KT.of_below HW7.out)).trans (KT.of_below HW12.out)).trans (KT.only hon HBB.out (.inl rfl)))
   have HBE9:Hid (Below base w (w12.setCell ⟨gs,0,none⟩ (.slice (some ⟨go,0,none⟩) 1 c12))):=Jh (((HO2.out.below HLow.out HBW.out).trans ((HW7.out.mono hsb).trans (HW12.out.mono hsb9))).trans (hon.below HLow.out (by have:=HW12.out.size;omega)))
   clear z1 f1 hon hbs hr12 hf12 hn12 hsb hsb9 HO12 HW12 HBB HB7 HN7 HF7 HR7 HX
   generalize w12.setCell ⟨gs,0,none⟩ (.slice (some ⟨go,0,none⟩) 1 c12)=w9 at *
   have q0:=HR9.out.cell 0
   have q1:=HR9.out.cell 1
   have q2:=HR9.out.cell 2
   have q3:=HR9.out.cell 3
   have q4:=HR9.out.cell 4
   have q5:=HR9.out.cell 5
   have q6:=HR9.out.cell 6
   have f0:=HR9.out.frozen 0
   have f1:=HR9.out.frozen 1
   have f2:=HR9.out.frozen 2
   have f3:=HR9.out.frozen 3
   have f4:=HR9.out.frozen 4
   have f5:=HR9.out.frozen 5
   have f6:=HR9.out.frozen 6
   have m2:=HF9.out.cell 2
   have m3:=HF9.out.cell 3
   simp only [Ja,Jb,Jc] at q0 q1 q2 q3 q4 q5 q6 m2 m3
   go_wp2
   have hs:=set7_blk HR9.out (.int .i64 0) (.slice none 0 0) (.int .i64 (ver+1)) (.int .i64 now) (.int .i64 0) (.slice none 0 0) (.bool false)
   have hon:=set7_self w9 gr (.int .i64 0) (.slice none 0 0) (.int .i64 (ver+1)) (.int .i64 now) (.int .i64 0) (.slice none 0 0) (.bool false)
   have hkt:=HK9.out
   have hbe:=HBE9.out
   have hgr:=HGR.out
   refine bodyPost_ret (results_cell_row rfl _ _ gr 42 (repA 0 none 0 0 (ver+1) (.int .i64 now) (.int .i64 0) (.slice none 0 0) (.bool false)) (0,0) _ rfl hs Tryz.underlying42 rfl (by kernel_rfl)) rfl ?_
   exact ⟨_,_,⟨A',c',d,ver+1,now⟩,rfl,S1.other HS9.out hon HR9.out (by decide) (by decide) (by decide),rfl,rfl,rfl,hkt.fin hon (by omega),hbe.trans (hon.below (by have:=HBW.out;omega) (by have:=hbe.size;have:=HBW.out;omega))⟩
end
section
variable {w w':World} {base gs go cO:Nat} {x:Ob} {ver now:Int}
set_option maxRecDepth 100000 in
set_option maxHeartbeats 6400000 in
theorem do_get0 (w:World) (h:S0 w base gs now) :
  Calls Tryz.prog 23 #[.pointer (some ⟨gs,0,none⟩),.agg (callC 3 manK none 0 0 0)] w fun e w'=>e=.returned (repV 7 none 0 0 0 0)∧Below w.heap.size w w':=by
 have hw2:Below w.heap.size w ((w.alloc (.cells (callC 3 manK none 0 0 0) 35)).alloc (.cells rep0 42)):=((Below.refl _ _).alloc (Nat.le_refl _) _).alloc (by simp) _
 have HC2:=Jh ((Blk.new w 35 (callC 3 manK none 0 0 0)).alloc (.cells rep0 42))
 have hR2:=Blk.new (w.alloc (.cells (callC 3 manK none 0 0 0) 35)) 42 rep0
 have hz:(w.alloc (.cells (callC 3 manK none 0 0 0) 35)).heap.size=w.heap.size+1:=by simp
 rw [hz] at hR2
 have HR2:=Jh hR2
 have HW2:=Jh hw2
 have HS2:=Jh (h.below hw2)
 have HS:=Jh h
 clear hR2 hw2 h hz
 go_enter Tryz.func23,Tryz.ntmps23
 go_upto_region 1 with fail
 obtain ⟨gc,hgc⟩:∃ gc,gc=w.heap.size:=⟨_,rfl⟩
 obtain ⟨gr,hgr⟩:∃ gr,gr=w.heap.size+1:=⟨_,rfl⟩
 have HG:Hid (gc=w.heap.size∧gr=w.heap.size+1):=Jh ⟨hgc,hgr⟩
 rw [← hgr] at HR2 ⊢
 rw [← hgc] at HC2 ⊢
 clear hgc hgr
 generalize (w.alloc (.cells (callC 3 manK none 0 0 0) 35)).alloc (.cells rep0 42)=w2 at *
 have k1:w2.cell? ⟨gc,1,none⟩=some (.string manK):=HC2.out.cell 1
 have k6:w2.cell? ⟨gc,6,none⟩=some (.int .i64 0):=HC2.out.cell 6
 have HOP:Hid (∀ m,Calls Tryz.prog 44 #[.pointer (some ⟨gs,0,none⟩),.int .i64 0] (w2.drewN m) fun e w''=>e=.returned (.int .i64 (-1))∧∃ m',w''=w2.drewN m'):=Jh fun m=>(open_ (w2.drewN m) (HS2.out.below (below_drewN_ (Below.refl _ _) m)).blk rfl 0).mono fun e w'' h=>⟨h.1,m,h.2.symm⟩
 have HAT:Hid (∀ m,Calls Tryz.prog 43 #[.pointer (some ⟨gs,0,none⟩),.string manK] (w2.drewN m) fun e w''=>e=.returned (.int .i64 (-1))∧∃ m',w''=w2.drewN m'):=Jh fun m=>(at0 (w2.drewN m) (HS2.out.below (below_drewN_ (Below.refl _ _) m)).blk rfl).mono fun e w'' h=>⟨h.1,m,h.2.symm⟩
 go_quiet (first|(exact HAT.out _)|(exact HOP.out _))
 clear HAT HOP k1 k6
 have hnq:=below_drewN_ (Below.refl w2.heap.size w2) nq
 have HS1:=Jh (HS2.out.below hnq)
 have HC1:=Jh (HC2.out.below hnq HC2.out.lt)
 have HR1:=Jh (HR2.out.below hnq HR2.out.lt)
 have HW1:=Jh (HW2.out.trans (hnq.mono HW2.out.size))
 clear hnq HS2 HC2 HR2 HW2
 generalize w2.drewN nq=w1 at *
 have k0:w1.cell? ⟨gc,0,none⟩=some (.int .i64 3):=HC1.out.cell 0
 have k1:w1.cell? ⟨gc,1,none⟩=some (.string manK):=HC1.out.cell 1
 have k2:w1.cell? ⟨gc,2,none⟩=some (.slice none 0 0):=HC1.out.cell 2
 have k3:w1.cell? ⟨gc,3,none⟩=some (.int .i64 0):=HC1.out.cell 3
 have d1:decide ((-1:Int)<0)=true:=by decide
 go_wp2_with fail
 refine (bad_calls w1 7).mono ?_
 rintro e wb ⟨rfl,hbb⟩
 have HRb:=Jh (HR1.out.below hbb HR1.out.lt)
 have HWb:=Jh (HW1.out.trans (hbb.mono HW1.out.size))
 clear hbb k0 k1 k2 k3
 have q0:=HRb.out.cell 0
 have q1:=HRb.out.cell 1
 have q2:=HRb.out.cell 2
 have q3:=HRb.out.cell 3
 have q4:=HRb.out.cell 4
 have q5:=HRb.out.cell 5
 have q6:=HRb.out.cell 6
 have f0:=HRb.out.frozen 0
 have f1:=HRb.out.frozen 1
 have f2:=HRb.out.frozen 2
 have f3:=HRb.out.frozen 3
 have f4:=HRb.out.frozen 4
 have f5:=HRb.out.frozen 5
 have f6:=HRb.out.frozen 6
 simp only [Ja,Jb,Jc] at q0 q1 q2 q3 q4 q5 q6
 go_wp2
 have hs:=set7_blk HRb.out (.int .i64 7) (.slice none 0 0) (.int .i64 0) (.int .i64 0) (.int .i64 0) (.slice none 0 0) (.bool false)
 have hbe:=HWb.out
 have hg:=HG.out
 have hfin:=set7_below hbe (B:=w.heap.size) (g:=gr) (by omega) (.int .i64 7) (.slice none 0 0) (.int .i64 0) (.int .i64 0) (.int .i64 0) (.slice none 0 0) (.bool false)
 refine bodyPost_ret (results_cell_row rfl _ _ gr 42 (repA 7 none 0 0 0 (.int .i64 0) (.int .i64 0) (.slice none 0 0) (.bool false)) (0,0) _ rfl hs Tryz.underlying42 rfl (by kernel_rfl)) rfl ?_
 exact ⟨rfl,hfin⟩
set_option maxRecDepth 100000 in
set_option maxHeartbeats 6400000 in
theorem do_get1 (w:World) (h:S1 w base gs go cO x ver now) :
  Calls Tryz.prog 23 #[.pointer (some ⟨gs,0,none⟩),.agg (callC 3 manK none 0 0 0)] w fun e w'=>∃ A c,e=.returned (repV 0 A x.d.length c x.ver x.born)∧w'.ownsRow w.heap.size 5 1 (.slice A x.d.length c) x.d.length (x.d.map byteV)∧Below w.heap.size w w':=by
 have hw2:Below w.heap.size w ((w.alloc (.cells (callC 3 manK none 0 0 0) 35)).alloc (.cells rep0 42)):=((Below.refl _ _).alloc (Nat.le_refl _) _).alloc (by simp) _
 have HC2:=Jh ((Blk.new w 35 (callC 3 manK none 0 0 0)).alloc (.cells rep0 42))
 have hR2:=Blk.new (w.alloc (.cells (callC 3 manK none 0 0 0) 35)) 42 rep0
 have hz:(w.alloc (.cells (callC 3 manK none 0 0 0) 35)).heap.size=w.heap.size+1:=by simp
 rw [hz] at hR2
 have HR2:=Jh hR2
 have HW2:=Jh hw2
 have HS2:=Jh (h.below hw2)
 have HS:=Jh h
 clear hR2 hw2 h hz
 go_enter Tryz.func23,Tryz.ntmps23
 go_upto_region 1 with fail
 obtain ⟨gc,hgc⟩:∃ gc,gc=w.heap.size:=⟨_,rfl⟩
 obtain ⟨gr,hgr⟩:∃ gr,gr=w.heap.size+1:=⟨_,rfl⟩
 have HG:Hid (gc=w.heap.size∧gr=w.heap.size+1):=Jh ⟨hgc,hgr⟩
 rw [← hgr] at HR2 ⊢
 rw [← hgc] at HC2 ⊢
 clear hgc hgr
 generalize (w.alloc (.cells (callC 3 manK none 0 0 0) 35)).alloc (.cells rep0 42)=w2 at *
 have k1:w2.cell? ⟨gc,1,none⟩=some (.string manK):=HC2.out.cell 1
 have k6:w2.cell? ⟨gc,6,none⟩=some (.int .i64 0):=HC2.out.cell 6
 have HOP:Hid (∀ m,Calls Tryz.prog 44 #[.pointer (some ⟨gs,0,none⟩),.int .i64 0] (w2.drewN m) fun e w''=>e=.returned (.int .i64 (-1))∧∃ m',w''=w2.drewN m'):=Jh fun m=>(open_ (w2.drewN m) (HS2.out.below (below_drewN_ (Below.refl _ _) m)).blk rfl 0).mono fun e w'' h=>⟨h.1,m,h.2.symm⟩
 have HAT:Hid (∀ m,Calls Tryz.prog 43 #[.pointer (some ⟨gs,0,none⟩),.string manK] (w2.drewN m) fun e w''=>e=.returned (.int .i64 0)∧∃ m',w''=w2.drewN m'):=Jh fun m=>(at1 (w2.drewN m) (HS2.out.below (below_drewN_ (Below.refl _ _) m)).blk rfl (HS2.out.below (below_drewN_ (Below.refl _ _) m)).at_.1).mono fun e w'' h=>⟨h.1,m,h.2.symm⟩
 go_quiet (first|(exact HAT.out _)|(exact HOP.out _))
 clear HAT HOP k1 k6
 have hnq:=below_drewN_ (Below.refl w2.heap.size w2) nq
 have HS1:=Jh (HS2.out.below hnq)
 have HC1:=Jh (HC2.out.below hnq HC2.out.lt)
 have HR1:=Jh (HR2.out.below hnq HR2.out.lt)
 have HW1:=Jh (HW2.out.trans (hnq.mono HW2.out.size))
 clear hnq HS2 HC2 HR2 HW2
 generalize w2.drewN nq=w1 at *
 have k0:w1.cell? ⟨gc,0,none⟩=some (.int .i64 3):=HC1.out.cell 0
 have k1:w1.cell? ⟨gc,1,none⟩=some (.string manK):=HC1.out.cell 1
 have k2:w1.cell? ⟨gc,2,none⟩=some (.slice none 0 0):=HC1.out.cell 2
 have k3:w1.cell? ⟨gc,3,none⟩=some (.int .i64 0):=HC1.out.cell 3
 have d1:decide ((0:Int)<0)=false:=by decide
 have z0:w1.cell? ⟨gs,0,none⟩=some (.slice (some ⟨go,0,none⟩) 1 cO):=HS1.out.blk.cell 0
 obtain ⟨y0,y1,y2,y3⟩:=HS1.out.at_
 go_upto_region 22 with fail
 have hb3:Below w1.heap.size w1 (w1.alloc (.cells #[.string manK,.slice x.A x.d.length x.c,.int .i64 x.ver,.int .i64 x.born] 111)):=(Below.refl _ _).alloc (Nat.le_refl _) _
 have HO3:=Jh (Blk.new w1 111 #[.string manK,.slice x.A x.d.length x.c,.int .i64 x.ver,.int .i64 x.born])
 have HS3:=Jh (HS1.out.below hb3)
 have HC3:=Jh (HC1.out.below hb3 HC1.out.lt)
 have HR3:=Jh (HR1.out.below hb3 HR1.out.lt)
 have HW3:=Jh (HW1.out.trans (hb3.mono HW1.out.size))
 clear hb3 HS1 HC1 HR1 HW1 z0 y0 y1 y2 y3 k0 k1 k2 k3
 obtain ⟨g8,hg8⟩:∃ g8,g8=w1.heap.size:=⟨_,rfl⟩
 rw [← hg8] at HO3 ⊢
 clear hg8
 generalize w1.alloc (.cells #[.string manK,.slice x.A x.d.length x.c,.int .i64 x.ver,.int .i64 x.born] 111)=w3 at *
 have k0:w3.cell? ⟨gc,0,none⟩=some (.int .i64 3):=HC3.out.cell 0
 go_upto_region 26 with fail
 clear k0
 have Hc:Hid (∀ W,Below w3.heap.size w3 W→W.cell? ⟨g8,1,none⟩=some (.slice x.A x.d.length x.c)∧W.cell? ⟨g8,2,none⟩=some (.int .i64 x.ver)∧W.cell? ⟨g8,3,none⟩=some (.int .i64 x.born)):=Jh fun W hW=>by
  have h:=HO3.out.below hW HO3.out.lt
  exact ⟨h.cell 1,h.cell 2,h.cell 3⟩
 have HTw:=Jh fun W (hW:Below w3.heap.size w3 W)=>Nu.twin_calls W (c:=x.c) (own_bytes (HS3.out.below hW).dat) (Nat.le_refl _) (by have:=HS3.out.sz;omega)
 have HW0:Hid (Below w3.heap.size w3 w3.drew):=Jh (below_drewN_ (Below.refl _ _) 1)
 refine wp_region_T 8 (fun w'=>w'.cell? ⟨g8,1,none⟩=some (.slice x.A x.d.length x.c)∧w'.cell? ⟨g8,2,none⟩=some (.int .i64 x.ver)∧w'.cell? ⟨g8,3,none⟩=some (.int .i64 x.born)) (by kernel_rfl) (Hc.out _ HW0.out) (fun hHeld=>?_)
 generalize w3.drew=u0 at *
 apply tkT 0
 apply tkT 1
 apply tkT 3
 apply tkT 4
 apply tkT 5
 apply tkT 6
 refine wpAnyT_one (i:=2) (by kernel_rfl) rfl (fun K hK=>?_);go_simp
 refine (HTw.out u0 HW0.out).mono ?_
 rintro e u1 hr
 obtain ⟨A1,c1,rfl,-,-,-,hb1,ho1⟩:=hr.opened
 have HB1:=Jh (HW0.out.trans (hb1.mono HW0.out.size))
 have hH1:=Hc.out _ HB1.out
 refine hK.out _ _ (fun _=>hH1) ?_
 have HO1:=Jh (own_base (base':=w.heap.size) ho1 (Nat.le_trans HW3.out.size HW0.out.size))
 clear hK K hb1 ho1 hr hHeld
 (try simp only [Act.put,Jk,Jg,Ji,Jd,Je,Jf])
 apply tkT 7
 have HRb:=Jh (HR3.out.below HB1.out HR3.out.lt)
 have HWb:=Jh (HW3.out.trans (HB1.out.mono HW3.out.size))
 have q0:=HRb.out.cell 0
 have q1:=HRb.out.cell 1
 have q2:=HRb.out.cell 2
 have q3:=HRb.out.cell 3
 have q4:=HRb.out.cell 4
 have q5:=HRb.out.cell 5
 have q6:=HRb.out.cell 6
 have f0:=HRb.out.frozen 0
 have f1:=HRb.out.frozen 1
 have f2:=HRb.out.frozen 2
 have f3:=HRb.out.frozen 3
 have f4:=HRb.out.frozen 4
 have f5:=HRb.out.frozen 5
 have f6:=HRb.out.frozen 6
 simp only [Ja,Jb,Jc] at q0 q1 q2 q3 q4 q5 q6
 refine wpAnyT_one (i:=8) (by kernel_rfl) rfl (fun K hK=>?_);go_simp
 refine hK.out _ _ (fun h=>absurd rfl h) (wpAnyT_done (by kernel_rfl) ?_ _)
 clear hK K
 go_wp2
 have hs:=set7_blk HRb.out (.int .i64 0) (.slice A1 x.d.length c1) (.int .i64 x.ver) (.int .i64 x.born) (.int .i64 0) (.slice none 0 0) (.bool false)
 have hon:=set7_self u1 gr (.int .i64 0) (.slice A1 x.d.length c1) (.int .i64 x.ver) (.int .i64 x.born) (.int .i64 0) (.slice none 0 0) (.bool false)
 have hbe:=HWb.out
 have hg:=HG.out
 have hfin:=set7_below hbe (B:=w.heap.size) (g:=gr) (by omega) (.int .i64 0) (.slice A1 x.d.length c1) (.int .i64 x.ver) (.int .i64 x.born) (.int .i64 0) (.slice none 0 0) (.bool false)
 refine bodyPost_ret (results_cell_row rfl _ _ gr 42 (repA 0 A1 x.d.length c1 x.ver (.int .i64 x.born) (.int .i64 0) (.slice none 0 0) (.bool false)) (0,0) _ rfl hs Tryz.underlying42 rfl (by kernel_rfl)) rfl ?_
 exact ⟨A1,c1,rfl,own_free HO1.out hon HRb.out (by decide),hfin⟩
end
end Go.Proofs.YtibnehaibgbliaaGreat.Mf
