/- Laws for the row's walk. -/
import Derived.Test.YtibnehaibgbliaaGreatR05
import Derived.WalkSmall
set_option linter.unusedVariables false
set_option linter.unusedSimpArgs false
open Go.Lib renaming hid → Jh
namespace Go.Proofs.YtibnehaibgbliaaGreat.Mf
open Go.RowKit Go.Proofs.YtibnehaibgbliaaGreat
def Tells {α:Type} (w0:World) (g:Nat) (lb:Array Value) (V:α→Value) (p:α→Bool) (l:List α):Prop :=
 (∀ args w,(callFunc g args).run Tryz.prog w=.ok (.enter g args) w)∧∀ x∈l,∀ W,Below w0.heap.size w0 W→Calls Tryz.prog g (#[V x]++lb) W fun e w'=>e=.returned (.bool (p x))∧Below W.heap.size W w'
theorem any_step {α:Type} [Inhabited α] {p:α→Bool} {l:List α} {k:Nat} (h:∀ i,i<k→p (gt l i)=false) (h1:p (gt l k)=false):∀ i,i<k+1→p (gt l i)=false:=by
 intro i hi
 rcases Nat.lt_or_ge i k with h3|h3
 ·exact h i h3
 ·obtain rfl:i=k:=by omega
  exact h1
theorem any_no {α:Type} [Inhabited α] {p:α→Bool} {l:List α} (h:∀ i,i<l.length→p (gt l i)=false):l.any p=false:=by
 rw [List.any_eq_false]
 intro x hx
 obtain ⟨i,hi,rfl⟩:=mem_gt hx
 rw [h i hi];decide
theorem any_yes {α:Type} [Inhabited α] {p:α→Bool} {l:List α} {k:Nat} (hk:k<l.length) (h:p (gt l k)=true):l.any p=true:=List.any_eq_true.2 ⟨_,gt_mem hk,h⟩
set_option maxRecDepth 100000 in
set_option maxHeartbeats 1600000 in
theorem indexE_calls (w:World) {B c g:Nat} {lb:Array Value} {A:Option Addr} {l:List En} {p:En→Bool} (ht:Tells w g lb enV p l) (h:Reads w B 9 A l.length (l.flatMap En.cs)) (hB:B≤w.heap.size) (hn:l.length≤17592186044416) :
  Calls Tryz.prog 117 #[.slice A l.length c,.func (.func g) #[] lb] w fun e w'=>(∃ z:Int,e=.returned (.int .i64 z)∧decide (0≤z)=l.any p)∧Below w.heap.size w w':=by
 have HR:=Jh h
 have HT:=Jh ht.2
 have eg:=ht.1
 clear h ht
 go_enter Tryz.func117,Tryz.ntmps117
 go_wp2
 go_loopw [8] (fun i wr=>∃ j:Nat,j≤l.length∧i=.int .i64 (j:Int)∧Hid (∀ k,k<j→p (gt l k)=false)∧Below w.heap.size w wr) (fun i _=>l.length-(intOf i).toNat)
 case atStart=>exact ⟨0,Nat.zero_le _,rfl,Jh (fun k hk=>absurd hk (Nat.not_lt_zero k)),Below.refl _ _⟩
 case round =>
  obtain ⟨j,hj,rfl,HF,hbel⟩:=hrel
  by_cases hlt:j<l.length
  ·have hsz:=hbel.size
   have hr:=HR.out.below (hbel.mono hB)
   obtain ⟨b,off,rfl,hbB⟩:=row_addr hr (by omega)
   obtain ⟨p0,p1,p2,p3,p4,p5,p6,p7,p8⟩:wr.cell? ⟨b,off+j*9,none⟩=some (.string (gt l j).key)∧wr.cell? ⟨b,off+j*9+1,none⟩=some (.int .i64 (gt l j).window)∧wr.cell? ⟨b,off+j*9+2,none⟩=some (.string (gt l j).part)∧wr.cell? ⟨b,off+j*9+3,none⟩=some (.int .i64 (gt l j).first)∧wr.cell? ⟨b,off+j*9+4,none⟩=some (.int .i64 (gt l j).last)∧wr.cell? ⟨b,off+j*9+5,none⟩=some (.int .i64 (gt l j).rows)∧wr.cell? ⟨b,off+j*9+6,none⟩=some (.int .i64 (gt l j).size)∧wr.cell? ⟨b,off+j*9+7,none⟩=some (.int .u32 (gt l j).sum)∧wr.cell? ⟨b,off+j*9+8,none⟩=some (.int .i64 (gt l j).born):=⟨row_cell ecs_len hr hlt (j:=0) rfl,row_cell ecs_len hr hlt (j:=1) rfl,row_cell ecs_len hr hlt (j:=2) rfl,row_cell ecs_len hr hlt (j:=3) rfl,row_cell ecs_len hr hlt (j:=4) rfl,row_cell ecs_len hr hlt (j:=5) rfl,row_cell ecs_len hr hlt (j:=6) rfl,row_cell ecs_len hr hlt (j:=7) rfl,row_cell ecs_len hr hlt (j:=8) rfl⟩
   have HT2:=Jh (HT.out (gt l j) (gt_mem hlt) wr hbel)
   have HS:=Jh fun (hp:p (gt l j)=true)=>any_yes hlt hp
   have HN:=Jh fun (hp:p (gt l j)=false)=>any_step HF.out hp
   clear hr HR HT HF
   generalize gt l j=x at *
   go_wp2_with fail
   refine HT2.out.mono ?_
   rintro e w' ⟨rfl,hb'⟩
   cases hp:p x with
   | true =>
    have e1:=Jh (HS.out hp)
    go_wp2
    go_ret
    exact ⟨⟨_,rfl,by rw [e1.out];exact dct (by omega)⟩,hbel.trans (hb'.mono hsz)⟩
   | false =>
    have HN2:=Jh (HN.out hp)
    go_wp2
    go_roundw
    case rel=>exact ⟨j+1,by omega,by go_num,HN2,hbel.trans (hb'.mono hsz)⟩
    case measure=>simp [intOf];omega
  ·obtain rfl:j=l.length:=by omega
   have e1:=Jh (any_no HF.out)
   go_wp2
   go_ret
   exact ⟨⟨-1,rfl,by rw [e1.out];rfl⟩,hbel⟩
set_option maxRecDepth 100000 in
set_option maxHeartbeats 1600000 in
theorem indexO_calls (w:World) {B c g:Nat} {lb:Array Value} {A:Option Addr} {l:List Ow} {p:Ow→Bool} (ht:Tells w g lb owV p l) (h:Reads w B 3 A l.length (l.flatMap Ow.cs)) (hB:B≤w.heap.size) (hn:l.length≤17592186044416) :
  Calls Tryz.prog 122 #[.slice A l.length c,.func (.func g) #[] lb] w fun e w'=>(∃ z:Int,e=.returned (.int .i64 z)∧decide (0≤z)=l.any p)∧Below w.heap.size w w':=by
 have HR:=Jh h
 have HT:=Jh ht.2
 have eg:=ht.1
 clear h ht
 go_enter Tryz.func122,Tryz.ntmps122
 go_wp2
 go_loopw [8] (fun i wr=>∃ j:Nat,j≤l.length∧i=.int .i64 (j:Int)∧Hid (∀ k,k<j→p (gt l k)=false)∧Below w.heap.size w wr) (fun i _=>l.length-(intOf i).toNat)
 case atStart=>exact ⟨0,Nat.zero_le _,rfl,Jh (fun k hk=>absurd hk (Nat.not_lt_zero k)),Below.refl _ _⟩
 case round =>
  obtain ⟨j,hj,rfl,HF,hbel⟩:=hrel
  by_cases hlt:j<l.length
  ·have hsz:=hbel.size
   have hr:=HR.out.below (hbel.mono hB)
   obtain ⟨b,off,rfl,hbB⟩:=row_addr hr (by omega)
   obtain ⟨p0,p1,p2⟩:wr.cell? ⟨b,off+j*3,none⟩=some (.int .i64 (gt l j).agent)∧wr.cell? ⟨b,off+j*3+1,none⟩=some (.int .i64 (gt l j).life)∧wr.cell? ⟨b,off+j*3+2,none⟩=some (.int .i64 (gt l j).count):=⟨row_cell ocs_len hr hlt (j:=0) rfl,row_cell ocs_len hr hlt (j:=1) rfl,row_cell ocs_len hr hlt (j:=2) rfl⟩
   have HT2:=Jh (HT.out (gt l j) (gt_mem hlt) wr hbel)
   have HS:=Jh fun (hp:p (gt l j)=true)=>any_yes hlt hp
   have HN:=Jh fun (hp:p (gt l j)=false)=>any_step HF.out hp
   clear hr HR HT HF
   generalize gt l j=x at *
   go_wp2_with fail
   refine HT2.out.mono ?_
   rintro e w' ⟨rfl,hb'⟩
   cases hp:p x with
   | true =>
    have e1:=Jh (HS.out hp)
    go_wp2
    go_ret
    exact ⟨⟨_,rfl,by rw [e1.out];exact dct (by omega)⟩,hbel.trans (hb'.mono hsz)⟩
   | false =>
    have HN2:=Jh (HN.out hp)
    go_wp2
    go_roundw
    case rel=>exact ⟨j+1,by omega,by go_num,HN2,hbel.trans (hb'.mono hsz)⟩
    case measure=>simp [intOf];omega
  ·obtain rfl:j=l.length:=by omega
   have e1:=Jh (any_no HF.out)
   go_wp2
   go_ret
   exact ⟨⟨-1,rfl,by rw [e1.out];rfl⟩,hbel⟩
theorem anyE_calls (w:World) {B c g:Nat} {lb:Array Value} {A:Option Addr} {l:List En} {p:En→Bool} (ht:Tells w g lb enV p l) (h:Reads w B 9 A l.length (l.flatMap En.cs)) (hB:B≤w.heap.size) (hn:l.length≤17592186044416) :
  Calls Tryz.prog 85 #[.slice A l.length c,.func (.func g) #[] lb] w fun e w'=>e=.returned (.bool (l.any p))∧Below w.heap.size w w':=by
 have HI:=Jh (indexE_calls w (c:=c) ht h hB hn)
 clear ht h
 go_enter Tryz.func85,Tryz.ntmps85
 go_wp2_with fail
 refine HI.out.mono ?_
 rintro e w1 ⟨⟨z,rfl,hz⟩,hb1⟩
 have HZ:=Jh hz
 clear hz HI
 go_wp2
 go_ret
 exact ⟨by rw [← HZ.out];rfl,hb1⟩
theorem anyO_calls (w:World) {B c g:Nat} {lb:Array Value} {A:Option Addr} {l:List Ow} {p:Ow→Bool} (ht:Tells w g lb owV p l) (h:Reads w B 3 A l.length (l.flatMap Ow.cs)) (hB:B≤w.heap.size) (hn:l.length≤17592186044416) :
  Calls Tryz.prog 98 #[.slice A l.length c,.func (.func g) #[] lb] w fun e w'=>e=.returned (.bool (l.any p))∧Below w.heap.size w w':=by
 have HI:=Jh (indexO_calls w (c:=c) ht h hB hn)
 clear ht h
 go_enter Tryz.func98,Tryz.ntmps98
 go_wp2_with fail
 refine HI.out.mono ?_
 rintro e w1 ⟨⟨z,rfl,hz⟩,hb1⟩
 have HZ:=Jh hz
 clear hz HI
 go_wp2
 go_ret
 exact ⟨by rw [← HZ.out];rfl,hb1⟩
theorem low_calls (x:En) (w:World) {gm:Nat} {cut:Int} (hc:w.cell? ⟨gm,1,none⟩=some (.int .i64 cut)):Calls Tryz.prog 86 #[enV x,.pointer (some ⟨gm,0,none⟩)] w fun e w'=>e=.returned (.bool (decide (x.window<cut)))∧Below w.heap.size w w':=by
 have hlt:=World.block_lt_of_cell? w _ hc
 have hc2:(w.alloc (.cells #[.string x.key,.int .i64 x.window,.string x.part,.int .i64 x.first,.int .i64 x.last,.int .i64 x.rows,.int .i64 x.size,.int .u32 x.sum,.int .i64 x.born] 85)).cell? ⟨gm,1,none⟩=some (.int .i64 cut):=(World.cell?_alloc_lt w _ _ hlt).trans hc
 go_enter Tryz.func86,Tryz.ntmps86
 go_wp2
 go_ret
 exact ⟨rfl,(Below.refl _ _).alloc (Nat.le_refl _) _⟩
def didB (y x:Ow):Bool:=decide (x.agent=y.agent)&&decide (x.life=y.life)&&decide (y.count≤x.count)
theorem did_calls (x y:Ow) (w:World) {gb:Nat} (hc:w.cell? ⟨gb,0,none⟩=some (.int .i64 y.agent)∧w.cell? ⟨gb,1,none⟩=some (.int .i64 y.life)∧w.cell? ⟨gb,2,none⟩=some (.int .i64 y.count)):Calls Tryz.prog 99 #[owV x,.pointer (some ⟨gb,0,none⟩)] w fun e w'=>e=.returned (.bool (didB y x))∧Below w.heap.size w w':=by
 obtain ⟨q0,q1,q2⟩:=hc
 have hlt:=World.block_lt_of_cell? w _ q0
 have p0:(w.alloc (.cells #[.int .i64 x.agent,.int .i64 x.life,.int .i64 x.count] 26)).cell? ⟨gb,0,none⟩=some (.int .i64 y.agent):=(World.cell?_alloc_lt w _ ⟨gb,0,none⟩ hlt).trans q0
 have p1:(w.alloc (.cells #[.int .i64 x.agent,.int .i64 x.life,.int .i64 x.count] 26)).cell? ⟨gb,1,none⟩=some (.int .i64 y.life):=(World.cell?_alloc_lt w _ ⟨gb,1,none⟩ hlt).trans q1
 have p2:(w.alloc (.cells #[.int .i64 x.agent,.int .i64 x.life,.int .i64 x.count] 26)).cell? ⟨gb,2,none⟩=some (.int .i64 y.count):=(World.cell?_alloc_lt w _ ⟨gb,2,none⟩ hlt).trans q2
 have HD:Hid (didB y x=(decide (x.agent=y.agent)&&decide (x.life=y.life)&&decide (y.count≤x.count))):=Jh rfl
 clear q0 q1 q2
 generalize didB y x=out at *
 by_cases e0:x.agent=y.agent
 ·have te0:(x.agent == y.agent)=true:=eqt e0
  by_cases e1:x.life=y.life
  ·have te1:(x.life == y.life)=true:=eqt e1
   by_cases e2:y.count≤x.count
   ·have te2:decide (y.count≤x.count)=true:=dct e2
    have HV:Hid (out=true):=Jh (by rw [HD.out,dct e0,dct e1,dct e2];rfl)
    clear HD e0 e1 e2
    go_enter Tryz.func99,Tryz.ntmps99
    go_wp2
    go_ret
    exact ⟨by rw [HV.out];rfl,(Below.refl _ _).alloc (Nat.le_refl _) _⟩
   ·have te2:decide (y.count≤x.count)=false:=dcf e2
    have HV:Hid (out=false):=Jh (by rw [HD.out,dcf e2];simp)
    clear HD
    (try clear e0);(try clear e1);(try clear e2)
    go_enter Tryz.func99,Tryz.ntmps99
    go_wp2
    go_ret
    exact ⟨by rw [HV.out];rfl,(Below.refl _ _).alloc (Nat.le_refl _) _⟩
  ·have te1:(x.life == y.life)=false:=eqf e1
   have HV:Hid (out=false):=Jh (by rw [HD.out,dcf e1];simp)
   clear HD
   (try clear e0);(try clear e1);(try clear e2)
   go_enter Tryz.func99,Tryz.ntmps99
   go_wp2
   go_ret
   exact ⟨by rw [HV.out];rfl,(Below.refl _ _).alloc (Nat.le_refl _) _⟩
 ·have te0:(x.agent == y.agent)=false:=eqf e0
  have HV:Hid (out=false):=Jh (by rw [HD.out,dcf e0];simp)
  clear HD
  (try clear e0);(try clear e1);(try clear e2)
  go_enter Tryz.func99,Tryz.ntmps99
  go_wp2
  go_ret
  exact ⟨by rw [HV.out];rfl,(Below.refl _ _).alloc (Nat.le_refl _) _⟩
structure Md where
 gen:Int
 cut:Int
 fence:Int
 E:List En
 M:List Mk
 O:List Ow
deriving DecidableEq,Inhabited
structure Pl where
 AE:Option Addr
 cE:Nat
 AM:Option Addr
 cM:Nat
 AO:Option Addr
 cO:Nat
abbrev mdV (m:Md) (p:Pl):Value:=.agg #[.int .i64 m.gen,.int .i64 m.cut,.int .i64 m.fence,.slice p.AE m.E.length p.cE,.slice p.AM m.M.length p.cM,.slice p.AO m.O.length p.cO]
structure Man (w:World) (B:Nat) (m:Md) (p:Pl):Prop where
 re:Reads w B 9 p.AE m.E.length (m.E.flatMap En.cs)
 rm:Reads w B 2 p.AM m.M.length (m.M.flatMap Mk.cs)
 ro:Reads w B 3 p.AO m.O.length (m.O.flatMap Ow.cs)
 le:m.E.length≤17592186044416
 lm:m.M.length≤17592186044416
 lo:m.O.length≤17592186044416
 ce:m.E.length≤p.cE
 cm:m.M.length≤p.cM
 co:m.O.length≤p.cO
 ok:∀ x∈m.E,x.Ok
def Short (l:List En):Prop:=∀ x∈l,x.part.size≤100000
theorem Man.below {w w':World} {B:Nat} {m:Md} {p:Pl} (h:Man w B m p) (hb:Below B w w'):Man w' B m p:=⟨h.re.below hb,h.rm.below hb,h.ro.below hb,h.le,h.lm,h.lo,h.ce,h.cm,h.co,h.ok⟩
def lowB (m:Md):Bool:=m.E.any fun x=>decide (x.window<m.cut)
noncomputable def rightB (m:Md):Bool:=numB m.gen 0&&numB m.cut 0&&numB m.fence 0&&decide (m.E.length≤256)&&!lowB m&&risB enB ltE m.E&&risB mkB ltM m.M&&risB owB ltO m.O
set_option maxRecDepth 100000 in
set_option maxHeartbeats 3200000 in
theorem right_calls (w:World) {B:Nat} {m:Md} {p:Pl} (h:Man w B m p) (hB:B≤w.heap.size) (hs:Short m.E) (hm:Sh w):Calls Tryz.prog 58 #[mdV m p] w fun e w'=>e=.returned (.bool (rightB m))∧Below w.heap.size w w':=by
 have HB:=Jh ((Below.refl w.heap.size w).alloc (Nat.le_refl _) (.cells #[.int .i64 m.gen,.int .i64 m.cut,.int .i64 m.fence,.slice p.AE m.E.length p.cE,.slice p.AM m.M.length p.cM,.slice p.AO m.O.length p.cO] 53))
 have HK:Hid (∀ W,Below (w.heap.size+1) (w.alloc (.cells #[.int .i64 m.gen,.int .i64 m.cut,.int .i64 m.fence,.slice p.AE m.E.length p.cE,.slice p.AM m.M.length p.cM,.slice p.AO m.O.length p.cO] 53)) W→W.cell? ⟨w.heap.size,0,none⟩=some (.int .i64 m.gen)∧W.cell? ⟨w.heap.size,1,none⟩=some (.int .i64 m.cut)∧W.cell? ⟨w.heap.size,2,none⟩=some (.int .i64 m.fence)∧W.cell? ⟨w.heap.size,3,none⟩=some (.slice p.AE m.E.length p.cE)∧W.cell? ⟨w.heap.size,4,none⟩=some (.slice p.AM m.M.length p.cM)∧W.cell? ⟨w.heap.size,5,none⟩=some (.slice p.AO m.O.length p.cO)):=Jh fun W hW=>by
  have hb:=(Blk.new w 53 #[.int .i64 m.gen,.int .i64 m.cut,.int .i64 m.fence,.slice p.AE m.E.length p.cE,.slice p.AM m.M.length p.cM,.slice p.AO m.O.length p.cO]).below hW (Nat.lt_succ_self _)
  exact ⟨hb.cell 0,hb.cell 1,hb.cell 2,hb.cell 3,hb.cell 4,hb.cell 5⟩
 have HA:Hid (Calls Tryz.prog 85 #[.slice p.AE m.E.length p.cE,.func (.func 86) #[] #[.pointer (some ⟨w.heap.size,0,none⟩)]] (w.alloc (.cells #[.int .i64 m.gen,.int .i64 m.cut,.int .i64 m.fence,.slice p.AE m.E.length p.cE,.slice p.AM m.M.length p.cM,.slice p.AO m.O.length p.cO] 53)) fun e w'=>e=.returned (.bool (lowB m))∧Below (w.heap.size+1) (w.alloc (.cells #[.int .i64 m.gen,.int .i64 m.cut,.int .i64 m.fence,.slice p.AE m.E.length p.cE,.slice p.AM m.M.length p.cM,.slice p.AO m.O.length p.cO] 53)) w'):=Jh (by
  refine (anyE_calls (w.alloc (.cells #[.int .i64 m.gen,.int .i64 m.cut,.int .i64 m.fence,.slice p.AE m.E.length p.cE,.slice p.AM m.M.length p.cM,.slice p.AO m.O.length p.cO] 53)) (p:=fun x=>decide (x.window<m.cut)) ⟨enters_of Tryz.func86 (by kernel_rfl) rfl,fun x _ W hW=>?_⟩ (h.re.below (HB.out.mono hB)) (by simp;omega) h.le).mono ?_
  ·rw [World.size_alloc] at hW
   exact low_calls x W (HK.out W hW).2.1
  ·rintro e w' ⟨rfl,hb⟩
   rw [World.size_alloc] at hb
   exact ⟨rfl,hb⟩)
 have HE:=Jh fun W (hW:Below w.heap.size w W)=>risingE_calls W (c:=p.cE) (h.re.below (hW.mono hB)) (by have:=hW.size;omega) h.le (fun x hx=>⟨h.ok x hx,hs x hx⟩) (hm.below hW hm.lt)
 have HM:=Jh fun W (hW:Below w.heap.size w W)=>risingM_calls W (c:=p.cM) (h.rm.below (hW.mono hB)) (by have:=hW.size;omega) h.lm
 have HO:=Jh fun W (hW:Below w.heap.size w W)=>risingO_calls W (c:=p.cO) (h.ro.below (hW.mono hB)) (by have:=hW.size;omega) h.lo
 have HN:=Jh num_calls
 have HD:Hid (rightB m=(numB m.gen 0&&numB m.cut 0&&numB m.fence 0&&decide (m.E.length≤256)&&!lowB m&&risB enB ltE m.E&&risB mkB ltM m.M&&risB owB ltO m.O)):=Jh rfl
 have hle:=h.le
 clear h hs hm
 generalize rightB m=out at *
 generalize lowB m=low at *
 generalize risB enB ltE m.E=re at *
 generalize risB mkB ltM m.M=rm at *
 generalize risB owB ltO m.O=ro at *
 go_enter Tryz.func58,Tryz.ntmps58
 go_wp2_with fail
 refine HA.out.mono ?_
 rintro e w1 ⟨rfl,hb1⟩
 obtain ⟨q0,q1,q2,q3,q4,q5⟩:=HK.out w1 hb1
 have hb01:Below w.heap.size w w1:=HB.out.trans (hb1.mono (by omega))
 have HB1:=Jh hb1
 have hsz:=hb01.size
 have hs1:w.heap.size+1≤w1.heap.size:=by have:=hb1.size;rw [World.size_alloc] at this;exact this
 clear hb1 HA HB
 by_cases e0:numB m.gen 0=true
 ·have te0:numB m.gen 0=true:=e0
  by_cases e1:numB m.cut 0=true
  ·have te1:numB m.cut 0=true:=e1
   by_cases e2:numB m.fence 0=true
   ·have te2:numB m.fence 0=true:=e2
    by_cases e3:m.E.length≤256
    ·have te3:decide ((m.E.length:Int)≤256)=true:=dct (by omega)
     by_cases e4:low=false
     ·have te4:low=false:=e4
      by_cases e5:re=true
      ·have te5:re=true:=e5
       by_cases e6:rm=true
       ·have te6:rm=true:=e6
        have HV:Hid (out=ro):=Jh (by rw [HD.out,te0,te1,te2,dct e3,te4,te5,te6];rfl)
        clear HD
        subst e4 e5 e6
        go_wp2_with first|(go_at_call 87;refine (HN.out _ _ _).mono ?_;rintro e w9 ⟨rfl,rfl⟩)|(go_at_call 88;refine (HE.out _ hb01).mono ?_;rintro e w2 ⟨rfl,hb2'⟩;have hb2:Below w.heap.size w w2:=hb01.trans (hb2'.mono hsz);have hs2:=hb2.size;have hg2:=HB1.out.trans (hb2'.mono hs1);have hs12:w.heap.size+1≤w2.heap.size:=Nat.le_trans hs1 hb2'.size;obtain ⟨r0,r1,r2,r3,r4,r5⟩:=HK.out w2 hg2;clear hb2')|(go_at_call 91;refine (HM.out _ hb2).mono ?_;rintro e w3 ⟨rfl,hb3'⟩;have hb3:Below w.heap.size w w3:=hb2.trans (hb3'.mono hs2);have hs3:=hb3.size;have hg3:=hg2.trans (hb3'.mono hs12);obtain ⟨t0,t1,t2,t3,t4,t5⟩:=HK.out w3 hg3;clear hb3')|(go_at_call 94;refine (HO.out _ hb3).mono ?_;rintro e w4 ⟨rfl,hb4'⟩;have hb4:Below w.heap.size w w4:=hb3.trans (hb4'.mono hs3))
        go_ret
        exact ⟨by rw [HV.out];rfl,by exact hb4⟩
       ·have te6:rm=false:=by simpa using e6
        have HV:Hid (out=false):=Jh (by rw [HD.out];first|(rw [te6];simp)|(rw [dcf e6];simp))
        clear HD
        go_wp2_with first|(go_at_call 87;refine (HN.out _ _ _).mono ?_;rintro e w9 ⟨rfl,rfl⟩)|(go_at_call 88;refine (HE.out _ hb01).mono ?_;rintro e w2 ⟨rfl,hb2'⟩;have hb2:Below w.heap.size w w2:=hb01.trans (hb2'.mono hsz);have hs2:=hb2.size;have hg2:=HB1.out.trans (hb2'.mono hs1);have hs12:w.heap.size+1≤w2.heap.size:=Nat.le_trans hs1 hb2'.size;obtain ⟨r0,r1,r2,r3,r4,r5⟩:=HK.out w2 hg2;clear hb2')|(go_at_call 91;refine (HM.out _ hb2).mono ?_;rintro e w3 ⟨rfl,hb3'⟩;have hb3:Below w.heap.size w w3:=hb2.trans (hb3'.mono hs2);have hs3:=hb3.size;have hg3:=hg2.trans (hb3'.mono hs12);obtain ⟨t0,t1,t2,t3,t4,t5⟩:=HK.out w3 hg3;clear hb3')|(go_at_call 94;refine (HO.out _ hb3).mono ?_;rintro e w4 ⟨rfl,hb4'⟩;have hb4:Below w.heap.size w w4:=hb3.trans (hb4'.mono hs3))
        go_ret
        exact ⟨by rw [HV.out];rfl,by first|exact hb4|exact hb3|exact hb2|exact hb01⟩
      ·have te5:re=false:=by simpa using e5
       have HV:Hid (out=false):=Jh (by rw [HD.out];first|(rw [te5];simp)|(rw [dcf e5];simp))
       clear HD
       go_wp2_with first|(go_at_call 87;refine (HN.out _ _ _).mono ?_;rintro e w9 ⟨rfl,rfl⟩)|(go_at_call 88;refine (HE.out _ hb01).mono ?_;rintro e w2 ⟨rfl,hb2'⟩;have hb2:Below w.heap.size w w2:=hb01.trans (hb2'.mono hsz);have hs2:=hb2.size;have hg2:=HB1.out.trans (hb2'.mono hs1);have hs12:w.heap.size+1≤w2.heap.size:=Nat.le_trans hs1 hb2'.size;obtain ⟨r0,r1,r2,r3,r4,r5⟩:=HK.out w2 hg2;clear hb2')|(go_at_call 91;refine (HM.out _ hb2).mono ?_;rintro e w3 ⟨rfl,hb3'⟩;have hb3:Below w.heap.size w w3:=hb2.trans (hb3'.mono hs2);have hs3:=hb3.size;have hg3:=hg2.trans (hb3'.mono hs12);obtain ⟨t0,t1,t2,t3,t4,t5⟩:=HK.out w3 hg3;clear hb3')|(go_at_call 94;refine (HO.out _ hb3).mono ?_;rintro e w4 ⟨rfl,hb4'⟩;have hb4:Below w.heap.size w w4:=hb3.trans (hb4'.mono hs3))
       go_ret
       exact ⟨by rw [HV.out];rfl,by first|exact hb4|exact hb3|exact hb2|exact hb01⟩
     ·have te4:low=true:=by simpa using e4
      have HV:Hid (out=false):=Jh (by rw [HD.out];first|(rw [te4];simp)|(rw [dcf e4];simp))
      clear HD
      go_wp2_with first|(go_at_call 87;refine (HN.out _ _ _).mono ?_;rintro e w9 ⟨rfl,rfl⟩)|(go_at_call 88;refine (HE.out _ hb01).mono ?_;rintro e w2 ⟨rfl,hb2'⟩;have hb2:Below w.heap.size w w2:=hb01.trans (hb2'.mono hsz);have hs2:=hb2.size;have hg2:=HB1.out.trans (hb2'.mono hs1);have hs12:w.heap.size+1≤w2.heap.size:=Nat.le_trans hs1 hb2'.size;obtain ⟨r0,r1,r2,r3,r4,r5⟩:=HK.out w2 hg2;clear hb2')|(go_at_call 91;refine (HM.out _ hb2).mono ?_;rintro e w3 ⟨rfl,hb3'⟩;have hb3:Below w.heap.size w w3:=hb2.trans (hb3'.mono hs2);have hs3:=hb3.size;have hg3:=hg2.trans (hb3'.mono hs12);obtain ⟨t0,t1,t2,t3,t4,t5⟩:=HK.out w3 hg3;clear hb3')|(go_at_call 94;refine (HO.out _ hb3).mono ?_;rintro e w4 ⟨rfl,hb4'⟩;have hb4:Below w.heap.size w w4:=hb3.trans (hb4'.mono hs3))
      go_ret
      exact ⟨by rw [HV.out];rfl,by first|exact hb4|exact hb3|exact hb2|exact hb01⟩
    ·have te3:decide ((m.E.length:Int)≤256)=false:=dcf (by omega)
     have HV:Hid (out=false):=Jh (by rw [HD.out];first|(rw [te3];simp)|(rw [dcf e3];simp))
     clear HD
     go_wp2_with first|(go_at_call 87;refine (HN.out _ _ _).mono ?_;rintro e w9 ⟨rfl,rfl⟩)|(go_at_call 88;refine (HE.out _ hb01).mono ?_;rintro e w2 ⟨rfl,hb2'⟩;have hb2:Below w.heap.size w w2:=hb01.trans (hb2'.mono hsz);have hs2:=hb2.size;have hg2:=HB1.out.trans (hb2'.mono hs1);have hs12:w.heap.size+1≤w2.heap.size:=Nat.le_trans hs1 hb2'.size;obtain ⟨r0,r1,r2,r3,r4,r5⟩:=HK.out w2 hg2;clear hb2')|(go_at_call 91;refine (HM.out _ hb2).mono ?_;rintro e w3 ⟨rfl,hb3'⟩;have hb3:Below w.heap.size w w3:=hb2.trans (hb3'.mono hs2);have hs3:=hb3.size;have hg3:=hg2.trans (hb3'.mono hs12);obtain ⟨t0,t1,t2,t3,t4,t5⟩:=HK.out w3 hg3;clear hb3')|(go_at_call 94;refine (HO.out _ hb3).mono ?_;rintro e w4 ⟨rfl,hb4'⟩;have hb4:Below w.heap.size w w4:=hb3.trans (hb4'.mono hs3))
     go_ret
     exact ⟨by rw [HV.out];rfl,by first|exact hb4|exact hb3|exact hb2|exact hb01⟩
   ·have te2:numB m.fence 0=false:=by simpa using e2
    have HV:Hid (out=false):=Jh (by rw [HD.out];first|(rw [te2];simp)|(rw [dcf e2];simp))
    clear HD
    go_wp2_with first|(go_at_call 87;refine (HN.out _ _ _).mono ?_;rintro e w9 ⟨rfl,rfl⟩)|(go_at_call 88;refine (HE.out _ hb01).mono ?_;rintro e w2 ⟨rfl,hb2'⟩;have hb2:Below w.heap.size w w2:=hb01.trans (hb2'.mono hsz);have hs2:=hb2.size;have hg2:=HB1.out.trans (hb2'.mono hs1);have hs12:w.heap.size+1≤w2.heap.size:=Nat.le_trans hs1 hb2'.size;obtain ⟨r0,r1,r2,r3,r4,r5⟩:=HK.out w2 hg2;clear hb2')|(go_at_call 91;refine (HM.out _ hb2).mono ?_;rintro e w3 ⟨rfl,hb3'⟩;have hb3:Below w.heap.size w w3:=hb2.trans (hb3'.mono hs2);have hs3:=hb3.size;have hg3:=hg2.trans (hb3'.mono hs12);obtain ⟨t0,t1,t2,t3,t4,t5⟩:=HK.out w3 hg3;clear hb3')|(go_at_call 94;refine (HO.out _ hb3).mono ?_;rintro e w4 ⟨rfl,hb4'⟩;have hb4:Below w.heap.size w w4:=hb3.trans (hb4'.mono hs3))
    go_ret
    exact ⟨by rw [HV.out];rfl,by first|exact hb4|exact hb3|exact hb2|exact hb01⟩
  ·have te1:numB m.cut 0=false:=by simpa using e1
   have HV:Hid (out=false):=Jh (by rw [HD.out];first|(rw [te1];simp)|(rw [dcf e1];simp))
   clear HD
   go_wp2_with first|(go_at_call 87;refine (HN.out _ _ _).mono ?_;rintro e w9 ⟨rfl,rfl⟩)|(go_at_call 88;refine (HE.out _ hb01).mono ?_;rintro e w2 ⟨rfl,hb2'⟩;have hb2:Below w.heap.size w w2:=hb01.trans (hb2'.mono hsz);have hs2:=hb2.size;have hg2:=HB1.out.trans (hb2'.mono hs1);have hs12:w.heap.size+1≤w2.heap.size:=Nat.le_trans hs1 hb2'.size;obtain ⟨r0,r1,r2,r3,r4,r5⟩:=HK.out w2 hg2;clear hb2')|(go_at_call 91;refine (HM.out _ hb2).mono ?_;rintro e w3 ⟨rfl,hb3'⟩;have hb3:Below w.heap.size w w3:=hb2.trans (hb3'.mono hs2);have hs3:=hb3.size;have hg3:=hg2.trans (hb3'.mono hs12);obtain ⟨t0,t1,t2,t3,t4,t5⟩:=HK.out w3 hg3;clear hb3')|(go_at_call 94;refine (HO.out _ hb3).mono ?_;rintro e w4 ⟨rfl,hb4'⟩;have hb4:Below w.heap.size w w4:=hb3.trans (hb4'.mono hs3))
   go_ret
   exact ⟨by rw [HV.out];rfl,by first|exact hb4|exact hb3|exact hb2|exact hb01⟩
 ·have te0:numB m.gen 0=false:=by simpa using e0
  have HV:Hid (out=false):=Jh (by rw [HD.out];first|(rw [te0];simp)|(rw [dcf e0];simp))
  clear HD
  go_wp2_with first|(go_at_call 87;refine (HN.out _ _ _).mono ?_;rintro e w9 ⟨rfl,rfl⟩)|(go_at_call 88;refine (HE.out _ hb01).mono ?_;rintro e w2 ⟨rfl,hb2'⟩;have hb2:Below w.heap.size w w2:=hb01.trans (hb2'.mono hsz);have hs2:=hb2.size;have hg2:=HB1.out.trans (hb2'.mono hs1);have hs12:w.heap.size+1≤w2.heap.size:=Nat.le_trans hs1 hb2'.size;obtain ⟨r0,r1,r2,r3,r4,r5⟩:=HK.out w2 hg2;clear hb2')|(go_at_call 91;refine (HM.out _ hb2).mono ?_;rintro e w3 ⟨rfl,hb3'⟩;have hb3:Below w.heap.size w w3:=hb2.trans (hb3'.mono hs2);have hs3:=hb3.size;have hg3:=hg2.trans (hb3'.mono hs12);obtain ⟨t0,t1,t2,t3,t4,t5⟩:=HK.out w3 hg3;clear hb3')|(go_at_call 94;refine (HO.out _ hb3).mono ?_;rintro e w4 ⟨rfl,hb4'⟩;have hb4:Below w.heap.size w w4:=hb3.trans (hb4'.mono hs3))
  go_ret
  exact ⟨by rw [HV.out];rfl,by first|exact hb4|exact hb3|exact hb2|exact hb01⟩
end Go.Proofs.YtibnehaibgbliaaGreat.Mf
namespace Go.Proofs.YtibnehaibgbliaaGreat.Nu
def putU (n:Nat):List UInt8:=if h:n<128 then [UInt8.ofNat n] else UInt8.ofNat (n%128+128)::putU (n/128)
termination_by n
decreasing_by omega
theorem putU_lt {n:Nat} (h:n<128):putU n=[UInt8.ofNat n]:=by rw [putU,dif_pos h]
theorem putU_ge {n:Nat} (h:¬ n<128):putU n=UInt8.ofNat (n%128+128)::putU (n/128):=by rw [putU,dif_neg h]
theorem putU_pos (n:Nat):1≤(putU n).length:=by
 by_cases h:n<128
 ·rw [putU_lt h];simp
 ·rw [putU_ge h];simp
theorem putU_len (k:Nat):∀ n,n<128 ^ (k+1)→(putU n).length≤k+1:=by
 induction k with
 | zero=>intro n h;rw [putU_lt (by omega)];simp
 | succ k ih =>
  intro n h
  by_cases hn:n<128
  ·rw [putU_lt hn];simp
  ·rw [putU_ge hn,List.length_cons]
   have:=ih (n/128) (by rw [Nat.pow_succ] at h;omega)
   omega
theorem putU_step {n m:Nat} {pre:List UInt8} (h:pre++putU m=putU n) (hm:¬ m<128):(pre++[UInt8.ofNat (m%128+128)])++putU (m/128)=putU n:=by
 rw [putU_ge hm] at h;rw [← h];simp
theorem putU_end {n m:Nat} {pre:List UInt8} (h:pre++putU m=putU n) (hm:m<128):pre++[UInt8.ofNat m]=putU n:=by
 rw [putU_lt hm] at h;exact h
theorem putU_room {n m:Nat} {pre:List UInt8} (h:pre++putU m=putU n) (hn:(putU n).length≤10):pre.length+1≤10:=by
 have:=congrArg List.length h
 have:=putU_pos m
 simp at *;omega
def headsF:Nat→List UInt8→Nat
 | 0,_=>0
 | _+1,[]=>0
 | f+1,x::r=>if 128≤x.toNat then headsF f r+1 else 0
def lev:List UInt8→Nat
 | []=>0
 | x::r=>x.toNat%128+128*lev r
def readAt (r:List UInt8):Nat × Nat × Nat :=
 if r.length≤headsF 9 r then (0,0,3)
 else if (headsF 9 r=9∧1<(r.getD (headsF 9 r) 0).toNat)∨(0<headsF 9 r∧(r.getD (headsF 9 r) 0).toNat=0) then (0,0,4)
 else (lev (r.take (headsF 9 r+1)),headsF 9 r+1,0)
def readU (l:List UInt8) (at_:Int):Nat × Nat × Nat :=
 if at_<0∨(l.length:Int)≤at_ then (0,0,3) else readAt (l.drop at_.toNat)
theorem headsF_le (f:Nat):∀ r,headsF f r≤f:=by
 induction f with
 | zero=>intro r;simp [headsF]
 | succ f ih =>
  intro r
  cases r with
  | nil=>simp [headsF]
  | cons x r=>simp only [headsF];have:=ih r;split<;>omega
theorem headsF_eq (f:Nat):∀ (r:List UInt8) (k:Nat),k≤f→k≤r.length→(∀ j,j<k→128≤(r.getD j 0).toNat) →
  (k=f∨k=r.length∨(r.getD k 0).toNat<128)→headsF f r=k:=by
 induction f with
 | zero=>intro r k h1 _ _ _;simp [headsF];omega
 | succ f ih =>
  intro r k h1 h2 h3 h4
  cases r with
  | nil=>simp at h2;subst h2;simp [headsF]
  | cons x r =>
   cases k with
   | zero =>
    have:x.toNat<128:=by rcases h4 with h|h|h<;>simp at h;exact h
    simp only [headsF];rw [if_neg (by omega)]
   | succ k =>
    have h0:=h3 0 (by omega)
    simp at h0
    simp only [headsF];rw [if_pos h0]
    rw [ih r k (by omega) (by simpa using h2) (fun j hj=>by have:=h3 (j+1) (by omega);simpa using this) (by rcases h4 with h|h|h;exact .inl (by omega);exact .inr (.inl (by simpa using h));exact .inr (.inr (by simpa using h)))]
theorem lev_snoc:∀ (r:List UInt8) (x:UInt8),lev (r++[x])=lev r+128 ^ r.length*(x.toNat%128)
 | [],x=>by simp [lev]
 | y::r,x=>by
  simp only [List.cons_append,lev,lev_snoc r x,List.length_cons,Nat.pow_succ]
  rw [Nat.mul_add,← Nat.mul_assoc,Nat.mul_comm 128 (128 ^ r.length),Nat.add_assoc]
theorem take_snoc {α:Type} (r:List α) (k:Nat) (h:k<r.length):r.take (k+1)=r.take k++[r[k]]:=List.take_succ_eq_append_getElem h
theorem lev_take (r:List UInt8) (k:Nat) (h:k<r.length):lev (r.take (k+1))=lev (r.take k)+128 ^ k*(r[k].toNat%128):=by
 rw [take_snoc r k h,lev_snoc,List.length_take,Nat.min_eq_left (by omega)]
theorem lev_lt:∀ r:List UInt8,lev r<128 ^ r.length
 | []=>by simp [lev]
 | x::r=>by
  have:=lev_lt r
  simp only [lev,List.length_cons,Nat.pow_succ]
  omega
theorem lev_take_lt (r:List UInt8) (k:Nat):lev (r.take k)<128 ^ k:=by
 have h1:=lev_lt (r.take k)
 have h2:(r.take k).length≤k:=List.length_take_le _ _
 exact Nat.lt_of_lt_of_le h1 (Nat.pow_le_pow_right (by omega) h2)
theorem readAt_short {r:List UInt8} (hl:r.length≤9) (h:∀ j,j<r.length→128≤(r.getD j 0).toNat):readAt r=(0,0,3):=by
 have:=headsF_eq 9 r r.length hl (Nat.le_refl _) h (.inr (.inl rfl))
 unfold readAt;rw [this,if_pos (Nat.le_refl _)]
theorem readAt_form {r:List UInt8} {k:Nat} (hk:k≤9) (hl:k<r.length) (h:∀ j,j<k→128≤(r.getD j 0).toNat) (hx:(k=9∧1<r[k].toNat)∨(r[k].toNat=0∧0<k)):readAt r=(0,0,4):=by
 have hg:r.getD k 0=r[k]:=by simp [List.getD,List.getElem?_eq_getElem hl]
 have:=headsF_eq 9 r k hk (by omega) h (by rcases hx with h|h;exact .inl h.1;exact .inr (.inr (by rw [hg];omega)))
 unfold readAt;rw [this,if_neg (by omega),if_pos]
 rw [hg]
 rcases hx with h|h
 ·exact .inl h
 ·exact .inr ⟨h.2,h.1⟩
theorem readAt_ok {r:List UInt8} {k:Nat} (hk:k≤9) (hl:k<r.length) (h:∀ j,j<k→128≤(r.getD j 0).toNat) (hx:¬ ((k=9∧1<r[k].toNat)∨(r[k].toNat=0∧0<k))) (hx2:r[k].toNat<128) :
  readAt r=(lev (r.take (k+1)),k+1,0):=by
 have hg:r.getD k 0=r[k]:=by simp [List.getD,List.getElem?_eq_getElem hl]
 have:=headsF_eq 9 r k hk (by omega) h (.inr (.inr (by rw [hg];omega)))
 unfold readAt;rw [this,if_neg (by omega),if_neg]
 rw [hg]
 intro h;exact hx (by rcases h with h|h;exact .inl h;exact .inr ⟨h.2,h.1⟩)
theorem readAt_h1 {r:List UInt8} {j:Nat} (h:headsF 9 r=j) (hl:r.length≤j):readAt r=(0,0,3):=by
 unfold readAt;rw [h,if_pos hl]
theorem readAt_h2 {r:List UInt8} {j:Nat} (h:headsF 9 r=j) (hl:j<r.length) (hx:(j=9∧1<r[j].toNat)∨(0<j∧r[j].toNat=0)):readAt r=(0,0,4):=by
 have hg:r.getD j 0=r[j]:=by simp [List.getD,List.getElem?_eq_getElem hl]
 unfold readAt;rw [h,if_neg (by omega),hg,if_pos hx]
theorem readAt_h3 {r:List UInt8} {j:Nat} (h:headsF 9 r=j) (hl:j<r.length) (hx:¬ ((j=9∧1<r[j].toNat)∨(0<j∧r[j].toNat=0))):readAt r=(lev (r.take (j+1)),j+1,0):=by
 have hg:r.getD j 0=r[j]:=by simp [List.getD,List.getElem?_eq_getElem hl]
 unfold readAt;rw [h,if_neg (by omega),hg,if_neg hx]
theorem lev_drop_le:∀ (l:List UInt8) (t:Nat),lev (l.drop t)≤lev l
 | [],t=>by simp [lev]
 | x::r,0=>by simp
 | x::r,t+1=>by
  have:=lev_drop_le r t
  simp only [List.drop_succ_cons,lev]
  omega
theorem lev_drop (l:List UInt8) (t:Nat) (h:t<l.length):lev (l.drop t)=l[t].toNat%128+128*lev (l.drop (t+1)):=by
 rw [List.drop_eq_getElem_cons h,lev]
theorem lev_back {r:List UInt8} {j t:Nat} (ht:t<j+1) (hl:j<r.length):lev ((r.take (j+1)).drop t)=(r[t]'(by omega)).toNat%128+128*lev ((r.take (j+1)).drop (t+1)):=by
 rw [lev_drop _ t (by rw [List.length_take];omega),List.getElem_take]
theorem lev_max {r:List UInt8} {k:Nat} (hk:k≤9) (hl:k<r.length) (hx:¬ (k=9∧1<r[k].toNat)):lev (r.take (k+1))≤18446744073709551615:=by
 rw [lev_take r k hl]
 have h0:=lev_take_lt r k
 rcases Nat.lt_or_ge k 9 with h|h
 ·have h1:128 ^ k≤128 ^ 8:=Nat.pow_le_pow_right (by omega) (by omega)
  have h2:128 ^ k*(r[k].toNat%128)≤128 ^ 8*127:=Nat.mul_le_mul h1 (by omega)
  omega
 ·obtain rfl:k=9:=by omega
  have:r[9].toNat%128≤1:=by omega
  have h2:128 ^ 9*(r[9].toNat%128)≤128 ^ 9*1:=Nat.mul_le_mul_left _ this
  omega
theorem readAt_max (r:List UInt8):(readAt r).1≤18446744073709551615∧(readAt r).2.1≤10∧(readAt r).2.1≤r.length:=by
 have h9:=headsF_le 9 r
 unfold readAt
 split
 ·simp
 ·split
  ·simp
  ·rename_i h1 h2
   refine ⟨lev_max h9 (by omega) (fun h=>h2 (.inl ⟨h.1,?_⟩)),by simp only;omega,by simp only;omega⟩
   have:=h.2
   simpa [List.getD,List.getElem?_eq_getElem (show headsF 9 r<r.length by omega)] using this
theorem heads_step {r:List UInt8} {j:Nat} (h:∀ t,t<j→128≤(r.getD t 0).toNat) (hj:j<r.length) (hx:128≤r[j].toNat):∀ t,t<j+1→128≤(r.getD t 0).toNat:=by
 intro t ht
 rcases Nat.lt_or_ge t j with h1|h1
 ·exact h t h1
 ·obtain rfl:t=j:=by omega
  simpa [List.getD,List.getElem?_eq_getElem hj] using hx
theorem putU_len10 {n:Nat} (h:n≤18446744073709551615):(putU n).length≤10:=putU_len 9 n (by omega)
theorem putU_form (k:Nat):∀ n,n≤k→∃ (pre:List UInt8) (x:UInt8),putU n=pre++[x]∧(∀ b∈pre,128≤b.toNat)∧x.toNat<128∧(n≠0→x.toNat≠0)∧(pre=[]∨n≠0)∧lev (pre++[x])=n:=by
 induction k using Nat.strongRecOn with
 | ind k ih =>
  intro n hk
  by_cases hn:n<128
  ·refine ⟨[],UInt8.ofNat n,by rw [putU_lt hn];rfl,by simp,?_,?_,.inl rfl,?_⟩
   ·rw [UInt8.toNat_ofNat'];omega
   ·rw [UInt8.toNat_ofNat'];omega
   ·simp only [List.nil_append,lev,UInt8.toNat_ofNat'];omega
  ·obtain ⟨pre,x,h1,h2,h3,h4,h5,h6⟩:=ih (n/128) (by omega) (n/128) (Nat.le_refl _)
   refine ⟨UInt8.ofNat (n%128+128)::pre,x,by rw [putU_ge hn,h1];rfl,?_,h3,fun _=>h4 (by omega),.inr (by omega),?_⟩
   ·intro b hb
    rcases List.mem_cons.1 hb with rfl|hb
    ·rw [UInt8.toNat_ofNat'];omega
    ·exact h2 b hb
   ·simp only [List.cons_append,lev,h6,UInt8.toNat_ofNat'];omega
theorem readAt_putU {n:Nat} (hn:n≤18446744073709551615) (rest:List UInt8):readAt (putU n++rest)=(n,(putU n).length,0):=by
 obtain ⟨pre,x,h1,h2,h3,h4,h5,h6⟩:=putU_form n n (Nat.le_refl _)
 have hlen:=putU_len10 hn
 have hl:pre.length+1≤10:=by rw [h1] at hlen;simpa using hlen
 have hk:pre.length<(putU n++rest).length:=by rw [h1];simp
 have hx:(putU n++rest)[pre.length]=x:=by simp [h1]
 have hlv:lev (pre++[x])=lev pre+128 ^ pre.length*(x.toNat%128):=lev_snoc pre x
 have hr:=readAt_ok (r:=putU n++rest) (k:=pre.length) (by omega) hk (fun j hj=>by
  have hm:pre[j]∈pre:=List.getElem_mem hj
  have:=h2 _ hm
  have e:(putU n++rest).getD j 0=pre[j]:=by
   rw [h1,List.getD,List.getElem?_append_left (by simp;omega),List.getElem?_append_left hj,List.getElem?_eq_getElem hj];rfl
  rw [e];exact this) (by
  rw [hx]
  rintro (⟨h9,h1'⟩|⟨h0,h0'⟩)
  ·rw [h6,h9] at hlv
   have:128 ^ 9*2≤128 ^ 9*(x.toNat%128):=Nat.mul_le_mul_left _ (by omega)
   omega
  ·rcases h5 with h5|h5
   ·rw [h5] at h0';simp at h0'
   ·exact h4 h5 h0) (by rw [hx];exact h3)
 have ht:(putU n++rest).take (pre.length+1)=pre++[x]:=by
  rw [h1]
  have:pre.length+1=(pre++[x]).length:=by simp
  rw [this,List.take_left]
 rw [hr,ht,h6,h1];simp
end Go.Proofs.YtibnehaibgbliaaGreat.Nu
namespace Go.Proofs.YtibnehaibgbliaaGreat.Cr
def poly:Nat:=3988292384
def bit (c:Nat):Nat:=if c%2=1 then c/2 ^^^ poly else c/2
def bits_:Nat→Nat→Nat
 | 0,c=>c
 | k+1,c=>bits_ k (bit c)
def num:List UInt8→Nat
 | []=>0
 | x::r=>x.toNat+256*num r
def crcStep (c x:Nat):Nat:=bits_ 8 (c ^^^ x)
def crcRun (c:Nat) (l:List UInt8):Nat:=l.foldl (fun c x=>crcStep c x.toNat) c
theorem crcRun_nil (c:Nat):crcRun c []=c:=rfl
theorem crcRun_cons (c:Nat) (x:UInt8) (r:List UInt8):crcRun c (x::r)=crcRun (crcStep c x.toNat) r:=by unfold crcRun;rw [List.foldl_cons]
def crcOf (l:List UInt8):Nat:=4294967295-crcRun 4294967295 l
theorem xor_mod2 (a b:Nat):(a ^^^ b)%2=(a%2+b%2)%2:=by
 have h:=Nat.testBit_xor a b 0
 simp only [Nat.testBit_zero] at h
 rcases Nat.mod_two_eq_zero_or_one a with ha|ha<;>rcases Nat.mod_two_eq_zero_or_one b with hb|hb<;>rcases Nat.mod_two_eq_zero_or_one (a ^^^ b) with hc|hc<;>simp [ha,hb,hc] at h ⊢
theorem xor_div2 (a b:Nat):(a ^^^ b)/2=a/2 ^^^ b/2:=Nat.xor_div_two
theorem xor_swap (a b c:Nat):(a ^^^ c) ^^^ b=(a ^^^ b) ^^^ c:=by rw [Nat.xor_assoc,Nat.xor_comm c b,Nat.xor_assoc]
theorem bit_xor (a b:Nat):bit (a ^^^ b)=bit a ^^^ bit b:=by
 unfold bit
 rw [xor_mod2,xor_div2]
 rcases Nat.mod_two_eq_zero_or_one a with ha|ha<;>rcases Nat.mod_two_eq_zero_or_one b with hb|hb<;>simp only [ha,hb]
 ·simp
 ·simp [Nat.xor_assoc]
 ·simp [xor_swap]
 ·simp only [Nat.reduceAdd,Nat.reduceMod,↓reduceIte]
  simp only [if_neg (show ¬ (0:Nat)=1 by omega)]
  rw [xor_swap (a/2) (b/2 ^^^ poly) poly,← Nat.xor_assoc,Nat.xor_assoc,Nat.xor_self,Nat.xor_zero]
theorem bits_xor (k:Nat):∀ a b,bits_ k (a ^^^ b)=bits_ k a ^^^ bits_ k b:=by
 induction k with
 | zero=>intro a b;rfl
 | succ k ih=>intro a b;simp only [bits_,bit_xor,ih]
theorem bits_add (k m:Nat):∀ c,bits_ (k+m) c=bits_ m (bits_ k c):=by
 induction k with
 | zero=>intro c;simp [bits_]
 | succ k ih=>intro c;rw [Nat.succ_add];simp only [bits_,ih]
theorem bit_double (c:Nat):bit (2*c)=c:=by unfold bit;rw [if_neg (by omega)];omega
theorem bits_shift (k:Nat):∀ c,bits_ k (2 ^ k*c)=c:=by
 induction k with
 | zero=>intro c;simp [bits_]
 | succ k ih =>
  intro c
  have e:2 ^ (k+1)*c=2*(2 ^ k*c):=by rw [Nat.pow_succ,Nat.mul_comm (2 ^ k) 2,Nat.mul_assoc]
  simp only [bits_,e,bit_double,ih]
theorem poly_lt:poly<2 ^ 32:=by unfold poly;omega
theorem bit_lt {c:Nat} (h:c<2 ^ 32):bit c<2 ^ 32:=by
 unfold bit;split
 ·exact Nat.xor_lt_two_pow (by omega) poly_lt
 ·omega
theorem bits_lt (k:Nat):∀ {c:Nat},c<2 ^ 32→bits_ k c<2 ^ 32:=by
 induction k with
 | zero=>intro c h;exact h
 | succ k ih=>intro c h;exact ih (bit_lt h)
theorem low_xor {x m:Nat} (k:Nat) (h:x<2 ^ k):x+2 ^ k*m=x ^^^ (2 ^ k*m):=by
 apply Nat.eq_of_testBit_eq
 intro i
 rw [Nat.testBit_xor,Nat.add_comm,Nat.testBit_two_pow_mul_add _ h,Nat.testBit_two_pow_mul]
 by_cases hi:i<k
 ·rw [if_pos hi]
  have:¬ k≤i:=by omega
  simp [this]
 ·rw [if_neg hi]
  have h2:x.testBit i=false:=Nat.testBit_lt_two_pow (Nat.lt_of_lt_of_le h (Nat.pow_le_pow_right (by omega) (by omega)))
  have:k≤i:=by omega
  simp [this,h2]
theorem crcRun_app:∀ (l m:List UInt8) (c:Nat),crcRun c (l++m)=crcRun (crcRun c l) m
 | [],m,c=>by rw [crcRun_nil,List.nil_append]
 | x::l,m,c=>by rw [List.cons_append,crcRun_cons,crcRun_cons,crcRun_app l m]
theorem crcStep_lt {c x:Nat} (h:c<2 ^ 32) (hx:x<256):crcStep c x<2 ^ 32:=by
 unfold crcStep
 exact bits_lt 8 (Nat.xor_lt_two_pow h (Nat.lt_of_lt_of_le hx (by decide)))
theorem crcRun_lt:∀ (l:List UInt8) {c:Nat},c<2 ^ 32→crcRun c l<2 ^ 32
 | [],_,h=>by rw [crcRun_nil];exact h
 | x::r,_,h=>by rw [crcRun_cons];exact crcRun_lt r (crcStep_lt h (UInt8.toNat_lt x))
def row (x:Nat):Nat :=
 match x with
 | 1=>498536548|2=>997073096|3=>651767980|4=>1994146192|5=>1802195444|6=>1303535960|7=>1342533948
 | 8=>3988292384|9=>4027552580|10=>3604390888|11=>3412177804|12=>2607071920|13=>2262029012|14=>2685067896|15=>3183342108
 | _=>0
def nib (c:Nat):Nat:=c/16 ^^^ row (c%16)
theorem nib_bits (c:Nat):nib c=bits_ 4 c:=by
 have h:∀ r:Fin 16,row r.val=bits_ 4 r.val:=by decide
 have e:c=c%16 ^^^ (2 ^ 4*(c/16)):=by
  rw [← low_xor 4 (by omega)];omega
 have h1:=h ⟨c%16,by omega⟩
 simp only at h1
 conv=>rhs;rw [e]
 rw [bits_xor,bits_shift,← h1]
 unfold nib
 exact Nat.xor_comm _ _
theorem nib_step (c x:Nat):nib (nib (c ^^^ x))=crcStep c x:=by
 rw [nib_bits,nib_bits,← bits_add];rfl
theorem nib_lt {c:Nat} (h:c<2 ^ 32):nib c<2 ^ 32:=by rw [nib_bits];exact bits_lt 4 h
theorem not32 {c:Nat} (h:c<2 ^ 32):4294967295-c=c ^^^ 4294967295:=by
 apply Nat.eq_of_testBit_eq
 intro i
 have e:(4294967295:Nat)=2 ^ 32-1:=by decide
 rw [Nat.testBit_xor,e,show 2 ^ 32-1-c=2 ^ 32-(c+1) by omega,Nat.testBit_two_pow_sub_succ h,Nat.testBit_two_pow_sub_one]
 by_cases hi:i<32
 ·simp [hi]
 ·have h2:c.testBit i=false:=Nat.testBit_lt_two_pow (Nat.lt_of_lt_of_le h (Nat.pow_le_pow_right (by omega) (by omega)))
  simp [hi,h2]
theorem crcOf_lt (l:List UInt8):crcOf l<2 ^ 32:=by unfold crcOf;omega
where
 mul_xor (k a b:Nat):2 ^ k*(a ^^^ b)=2 ^ k*a ^^^ 2 ^ k*b:=by
  apply Nat.eq_of_testBit_eq
  intro i
  rw [Nat.testBit_xor,Nat.testBit_two_pow_mul,Nat.testBit_two_pow_mul,Nat.testBit_two_pow_mul,Nat.testBit_xor]
  by_cases h:k≤i<;>simp [h]
theorem mul_xor (k a b:Nat):2 ^ k*(a ^^^ b)=2 ^ k*a ^^^ 2 ^ k*b:=by
 apply Nat.eq_of_testBit_eq
 intro i
 rw [Nat.testBit_xor,Nat.testBit_two_pow_mul,Nat.testBit_two_pow_mul,Nat.testBit_two_pow_mul,Nat.testBit_xor]
 by_cases h:k≤i<;>simp [h]
def four (n:Nat):List UInt8:=[UInt8.ofNat n,UInt8.ofNat (n/256),UInt8.ofNat (n/65536),UInt8.ofNat (n/16777216)]
def cseal (l:List UInt8):List UInt8:=l++four (crcOf l)
def copen (s:List UInt8):List UInt8 × Nat :=
 if s.length<4 then ([],3) else if s.drop (s.length-4)=four (crcOf (s.take (s.length-4))) then (s.take (s.length-4),0) else ([],6)
end Go.Proofs.YtibnehaibgbliaaGreat.Cr
namespace Go.Proofs.YtibnehaibgbliaaGreat.Mf
open Go.RowKit Go.Proofs.YtibnehaibgbliaaGreat
theorem hlt {w:World} {k:Nat} {o:Obj} (h:w.heap[k]?=some o):k<w.heap.size:=by
 rcases Nat.lt_or_ge k w.heap.size with hlt|hge
 ·exact hlt
 ·rw [Array.getElem?_eq_none hge] at h;cases h
def us (l:List Int):List UInt8:=l.flatMap fun n=>Nu.putU n.toNat
def head5:List UInt8:=[77,65,78,73,1]
def encE (x:En):List UInt8:=us [(x.key.size:Int)]++(x.key.data.toList++(us [x.window,(x.part.size:Int)]++(x.part.data.toList++us [x.first,x.last,x.rows,x.size,x.sum,x.born])))
def encK (x:Mk):List UInt8:=us [x.maker,x.seq]
def encO (x:Ow):List UInt8:=us [x.agent,x.life,x.count]
def encT (m:Md):List UInt8:=head5++(us [m.gen,m.cut,m.fence,(m.E.length:Int)]++(m.E.flatMap encE++(us [(m.M.length:Int)]++(m.M.flatMap encK++(us [(m.O.length:Int)]++m.O.flatMap encO)))))
def encB (m:Md):List UInt8:=Cr.cseal (encT m)
theorem us_nil:us []=[]:=rfl
theorem us_cons (n:Int) (l:List Int):us (n::l)=Nu.putU n.toNat++us l:=rfl
theorem us_app (l m:List Int):us (l++m)=us l++us m:=List.flatMap_append
theorem us_len (l:List Int) (h:∀ n∈l,n≤18446744073709551615):(us l).length≤10*l.length:=by
 induction l with
 | nil=>simp [us]
 | cons n l ih =>
  have h1:=Nu.putU_len10 (n:=n.toNat) (by have:=h n List.mem_cons_self;omega)
  have h2:=ih fun m hm=>h m (List.mem_cons_of_mem _ hm)
  rw [us_cons,List.length_append,List.length_cons];omega
theorem us_split (n:Int) (l:List Int) (r:List UInt8) (h:l≠[]):us (n::l)++r=us [n]++(us l++r):=by
 rw [us_cons,us_cons,us_nil,List.append_nil,List.append_assoc]
def most:Int:=1099511627775
structure En.In (x:En):Prop where
 key:x.key.size≤40
 part:x.part.size≤1024
 window:0≤x.window∧x.window≤most
 first:0≤x.first∧x.first≤most
 last:0≤x.last∧x.last≤most
 rows:0≤x.rows∧x.rows≤most
 size:0≤x.size∧x.size≤most
 sum:0≤x.sum∧x.sum≤4294967295
 born:0≤x.born∧x.born≤most
structure Md.In (m:Md):Prop where
 gen:0≤m.gen∧m.gen≤most
 cut:0≤m.cut∧m.cut≤most
 fence:0≤m.fence∧m.fence≤most
 le:m.E.length≤256
 lm:m.M.length≤64
 lo:m.O.length≤8
 E:∀ x∈m.E,x.In
 M:∀ x∈m.M,(0≤x.maker∧x.maker≤most)∧(0≤x.seq∧x.seq≤most)
 O:∀ x∈m.O,(0≤x.agent∧x.agent≤most)∧(0≤x.life∧x.life≤most)∧(0≤x.count∧x.count≤most)
end Go.Proofs.YtibnehaibgbliaaGreat.Mf
namespace Go.Proofs.YtibnehaibgbliaaGreat
open Go.RowKit
theorem or128 (n:Nat):bits .or .u8 ((n:Int)%256) 128=((UInt8.ofNat (n%128+128)).toNat:Int):=by
 have h:∀ r:Fin 256,bits .or .u8 (r.val:Int) 128=((r.val%128+128:Nat):Int):=by decide +kernel
 have e:((n:Int)%256)=(((⟨n%256,by omega⟩:Fin 256).val:Nat):Int):=by simp
 have e2:n%256%128=n%128:=by omega
 rw [e,h,UInt8.toNat_ofNat']
 simp only
 omega
theorem u8_and127 (x:UInt8):bits .and .u8 (x.toNat:Int) 127=((x.toNat%128:Nat):Int):=by
 have h:=u8_and_nat x.toNat 127 (UInt8.toNat_lt x) (by omega)
 rw [nat_mask7] at h
 exact h
theorem or_step (acc j:Nat) (x:UInt8) (hj:j≤9) (ha:acc<128 ^ j) (h9:j=9→x.toNat%128≤1) :
  bits .or .u64 (acc:Int) (IntKind.u64.wrap (IntKind.u64.wrap (bits .and .u8 (x.toNat:Int) 127)*2 ^ (7*j)))=((acc+128 ^ j*(x.toNat%128):Nat):Int):=by
 rw [u8_and127]
 have e1:IntKind.u64.wrap ((x.toNat%128:Nat):Int)=((x.toNat%128:Nat):Int):=by rw [IntKind.wrap_u64];omega
 have e2:((x.toNat%128:Nat):Int)*2 ^ (7*j)=((128 ^ j*(x.toNat%128):Nat):Int):=by
  rw [Int.natCast_mul,Int.mul_comm]
  congr 1
  have:(128:Nat) ^ j=2 ^ (7*j):=by rw [Nat.pow_mul]
  rw [this];simp
 have e3:128 ^ j*(x.toNat%128)≤9223372036854775808:=by
  rcases Nat.lt_or_ge j 9 with h|h
  ·have h1:128 ^ j≤128 ^ 8:=Nat.pow_le_pow_right (by omega) (by omega)
   have h2:128 ^ j*(x.toNat%128)≤128 ^ 8*127:=Nat.mul_le_mul h1 (by omega)
   omega
  ·obtain rfl:j=9:=by omega
   have:=h9 rfl
   omega
 have e5:acc<18446744073709551616:=by
  have h1:128 ^ j≤128 ^ 9:=Nat.pow_le_pow_right (by omega) hj
  omega
 have e4:IntKind.u64.wrap ((128 ^ j*(x.toNat%128):Nat):Int)=((128 ^ j*(x.toNat%128):Nat):Int):=by rw [IntKind.wrap_u64];omega
 rw [e1,e2,e4,u64_or_nat acc _ e5 (by omega),Nat.or_comm]
 have h7:(128:Nat) ^ j=2 ^ (7*j):=by rw [Nat.pow_mul]
 rw [nat_join (7*j) _ acc (by rw [h7];exact Nat.mul_mod_right _ _) (by rw [← h7];exact ha),Nat.add_comm]
end Go.Proofs.YtibnehaibgbliaaGreat
namespace Go.Proofs.YtibnehaibgbliaaGreat.Nu
open Go.RowKit
theorem Tryz.infoU8:(Tryz.prog.info? 5).map (fun i=>(i.zero,i.size,i.bytes))=some (some (.int .u8 0),1,1):=by kernel_rfl
set_option maxRecDepth 100000 in
set_option maxHeartbeats 400000 in
theorem putU_calls (n:Nat) (w:World) (hn:(putU n).length≤10) :
  Calls Tryz.prog 60 #[.int .u64 (n:Int)] w (RetBytes 5 w (putU n)):=by
 go_enter Tryz.func60,Tryz.ntmps60
 go_wp2
 go_loopw [0,3] (fun x v wr=>∃ (m:Nat) (pre:List UInt8),x=.int .u64 (m:Int)∧wr.ownsRow w.heap.size 5 1 v pre.length (pre.map byteV)∧pre++putU m=putU n∧Below w.heap.size w wr) (fun x _ _=>(intOf x).toNat)
 case atStart=>exact ⟨n,[],rfl,World.ownsRow_nil _ _ _ _,rfl,Below.refl _ _⟩
 case round =>
  obtain ⟨m,pre,rfl,hown,hpre,hbel⟩:=hrel
  have Hr:=putU_room hpre hn
  have Hp:=Jh hpre;clear hpre
  by_cases hlt:m<128
  ·go_wp2_with (at_builtin;go_must (refine wpList_push _ rfl (.tmp 14) (.tmp 17) _ rfl w.heap.size 5 _ 1 Tryz.underlying33 Tryz.infoU8 rfl _ _ _ _ _ rfl rfl hown rfl (by unfold maxLen;omega) (by omega) hbel.size ?_))
   intro v' w1 hown' hbel' _ _
   have hown2:=own_snoc hown' (u8_nat (by omega))
   rw [putU_end Hp.out hlt] at hown2
   go_wp2
   go_ret
   exact ⟨_,rfl,hown2,hbel.trans hbel'⟩
  ·go_wp2_with (at_builtin;go_must (refine wpList_push _ rfl (.tmp 6) (.tmp 10) _ rfl w.heap.size 5 _ 1 Tryz.underlying33 Tryz.infoU8 rfl _ _ _ _ _ rfl rfl hown rfl (by unfold maxLen;omega) (by omega) hbel.size ?_))
   intro v' w1 hown' hbel' _ _
   have hown2:=own_snoc hown' (or128 m)
   clear hown' hown
   go_wp2
   go_roundw
   case rel=>exact ⟨m/128,_,by go_num,hown2,putU_step Hp.out hlt,hbel.trans hbel'⟩
   case measure=>simp [intOf];omega
set_option maxRecDepth 100000 in
set_option maxHeartbeats 400000 in
theorem putURef_calls (n:Nat) (w:World) (hn:(putU n).length≤10) (hn2:n≤18446744073709551615) :
  Calls Tryz.prog 75 #[.int .u64 (n:Int)] w (RetBytes 5 w (putU n)):=by
 go_enter Tryz.func75,Tryz.ntmps75
 go_wp2
 go_loopw [0,3] (fun x v wr=>∃ (m:Nat) (pre:List UInt8),m≤n∧x=.int .u64 (m:Int)∧wr.ownsRow w.heap.size 5 1 v pre.length (pre.map byteV)∧pre++putU m=putU n∧Below w.heap.size w wr) (fun x _ _=>(intOf x).toNat)
 case atStart=>exact ⟨n,[],Nat.le_refl _,rfl,World.ownsRow_made w #[] 0 (Nat.le_refl _) (Nat.zero_le _) rfl,rfl,(Below.refl _ _).alloc (Nat.le_refl _) _⟩
 case round =>
  obtain ⟨m,pre,hm,rfl,hown,hpre,hbel⟩:=hrel
  have hm2:m≤18446744073709551615:=by omega
  have hm3:m≤n:=hm
  clear hm
  have Hr:=putU_room hpre hn
  have Hp:=Jh hpre;clear hpre
  by_cases hlt:m<128
  ·go_wp2_with (at_builtin;go_must (refine wpList_push _ rfl (.tmp 17) (.tmp 20) _ rfl w.heap.size 5 _ 1 Tryz.underlying33 Tryz.infoU8 rfl _ _ _ _ _ rfl rfl hown rfl (by unfold maxLen;omega) (by omega) hbel.size ?_))
   intro v' w1 hown' hbel' _ _
   have hown2:=own_snoc hown' (u8_nat (by omega))
   rw [putU_end Hp.out hlt] at hown2
   go_wp2
   go_ret
   exact ⟨_,rfl,hown2,hbel.trans hbel'⟩
  ·go_wp2_with (at_builtin;go_must (refine wpList_push _ rfl (.tmp 8) (.tmp 13) _ rfl w.heap.size 5 _ 1 Tryz.underlying33 Tryz.infoU8 rfl _ _ _ _ _ rfl rfl hown rfl (by unfold maxLen;omega) (by omega) hbel.size ?_))
   intro v' w1 hown' hbel' _ _
   have hown2:=own_snoc (b:=UInt8.ofNat (m%128+128)) hown' (by rw [UInt8.toNat_ofNat'];omega)
   clear hown' hown
   go_wp2
   go_roundw
   case rel=>exact ⟨m/128,_,by omega,by go_num,hown2,putU_step Hp.out hlt,hbel.trans hbel'⟩
   case measure=>simp [intOf];omega
theorem same_calls (w:World) {B1 B2:Nat} {A1 A2:Option Addr} {n1 n2 c1 c2:Nat} {l1 l2:List UInt8} (h1:Bytes w B1 A1 n1 l1) (h2:Bytes w B2 A2 n2 l2) :
  Calls Tryz.prog 115 #[.slice A1 n1 c1,.slice A2 n2 c2] w fun e w'=>e=.returned (.bool (l1 == l2))∧w=w':=by
 have k1:=h1.conv Tryz.prog c1 33 5 9 Tryz.underlying33 Tryz.underlying5 Tryz.underlying9
 have k2:=h2.conv Tryz.prog c2 33 5 9 Tryz.underlying33 Tryz.underlying5 Tryz.underlying9
 clear h1 h2
 go_enter Tryz.func115,Tryz.ntmps115
 go_wp2
 go_ret
 exact ⟨rfl,rfl⟩
theorem twin_calls (w:World) {B:Nat} {A:Option Addr} {n c:Nat} {l:List UInt8} (h:Bytes w B A n l) (hB:B≤w.heap.size) (hn:n≤140737488355328) :
  Calls Tryz.prog 49 #[.slice A n c] w (RetBytes 5 w l):=by
 go_enter Tryz.func49,Tryz.ntmps49
 go_wp2_with (at_builtin;go_must (refine wpList_append_any _ rfl (.tmp 3) (.tmp 4) _ rfl w.heap.size 5 _ 1 1 Tryz.underlying33 Tryz.infoU8 rfl (by omega) _ _ _ rfl (World.ownsRow_made w #[] 0 (Nat.le_refl _) (Nat.zero_le _) rfl) B A n c (l.map byteV) rfl (h.to ((Below.refl B w).alloc hB _) (Nat.le_refl _)).2 (byteV_one l) (by unfold maxLen;omega) (by omega) (by simp) ?_))
 intro v' w1 hown hbel _ _
 have hown2:w1.ownsRow w.heap.size 5 1 v' l.length (l.map byteV):=by have hl:=h.1;subst hl;simpa using hown
 go_wp2
 go_ret
 exact ⟨_,rfl,hown2,((Below.refl _ _).alloc (Nat.le_refl _) _).trans hbel⟩
def RetU (w:World) (r:Nat × Nat × Nat) (e:Ending) (w':World):Prop:=e=.returned (.tuple #[.int .u64 (r.1:Nat),.int .i64 (r.2.1:Nat),.int .i64 (r.2.2:Nat)])∧w=w'
theorem ret_u {k:IntKind} {a b:Int} {x y:Value} (h:a=b):Ending.returned (.tuple #[.int k a,x,y])=.returned (.tuple #[.int k b,x,y]):=by rw [h]
theorem u_out (w:World) {A:Option Addr} {n c:Nat} (at_:Int) (h:at_<0∨(n:Int)≤at_) :
  Calls Tryz.prog 134 #[.slice A n c,.int .i64 at_] w (RetU w (0,0,3)):=by
 by_cases h1:at_<0
 ·clear h
  go_enter Tryz.func134,Tryz.ntmps134
  go_wp2
  go_ret3
  exact ⟨rfl,rfl⟩
 ·have h2:(n:Int)≤at_:=by omega
  clear h
  go_enter Tryz.func134,Tryz.ntmps134
  go_wp2
  go_ret3
  exact ⟨rfl,rfl⟩
set_option maxRecDepth 100000 in
set_option maxHeartbeats 400000 in
theorem u_in (w:World) {B:Nat} {A:Option Addr} {n c:Nat} {l:List UInt8} (hb:Bytes w B A n l) (k:Nat) (hk:k<n) (hc:n≤c) (hm:n≤9223372036854775807) :
  Calls Tryz.prog 134 #[.slice A n c,.int .i64 (k:Int)] w (RetU w (readAt (l.drop k))):=by
 obtain ⟨b,off,rfl,_,hcell⟩:=hb.cell hk
 have hl:(l.drop k).length=n-k:=by rw [List.length_drop,hb.1]
 have hcells:∀ j (hj:j<(l.drop k).length),w.cell? ⟨b,off+k+j,none⟩=some (.int .u8 (((l.drop k)[j]).toNat:Int)):=fun j hj=>by
  have:=hcell (k+j) (by omega)
  rw [← Nat.add_assoc] at this
  simpa using this
 clear hcell hb
 generalize l.drop k=r at *
 have hck:¬ c=k:=by omega
 go_enter Tryz.func134,Tryz.ntmps134
 go_wp2
 go_loop [7,22] (fun acc i=>∃ j:Nat,j≤n-k∧j≤9∧acc=.int .u64 (lev (r.take j):Nat)∧i=.int .i64 (j:Int)∧Hid (∀ t,t<j→128≤(r.getD t 0).toNat)) (fun _ i=>(n-k)-(intOf i).toNat)
 case atStart=>exact ⟨0,by omega,by omega,by simp [lev],rfl,fun t ht=>by omega⟩
 case round =>
  obtain ⟨j,hj,hj9,rfl,rfl,hbig⟩:=hrel
  by_cases hlt:j<r.length
  ·have hx:=hcells j hlt
   have hl2:(0:Int)≤(r[j].toNat:Int)∧(r[j].toNat:Int)<256:=by have:=UInt8.toNat_lt r[j];omega
   clear hcells
   generalize hacc:lev (r.take j)=acc at *
   generalize hxe:r[j]=x at *
   have Ha:=Jh hacc;clear hacc
   have Hx:=Jh hxe;clear hxe
   have hlt2:j<n-k:=by omega
   have Hl:=Jh hl;clear hl
   have hacc2:acc<128 ^ j:=by rw [← Ha.out];exact lev_take_lt r j
   have Hstep:(j=9→x.toNat%128≤1)→Hid (bits .or .u64 (acc:Int) (IntKind.u64.wrap (IntKind.u64.wrap (bits .and .u8 (x.toNat:Int) 127)*2 ^ (7*j)))=((lev (r.take (j+1)):Nat):Int)):=fun h=>by
    have:=or_step acc j x hj9 hacc2 h
    rw [lev_take r j hlt,Hx.out,Ha.out];exact this
   clear hacc2
   by_cases h9:j=9
   ·have q1:((j:Int) == 9)=true:=by simp;omega
    by_cases h1:1<(x.toNat:Int)
    ·have Hfin:=Jh (readAt_form hj9 hlt hbig.out (.inl ⟨h9,by rw [Hx.out];omega⟩))
     clear h9 Hstep
     go_wp2
     go_ret3
     rw [Hfin.out];exact ⟨rfl,rfl⟩
    ·by_cases h0:(x.toNat:Int)=0
     ·have q2:((x.toNat:Int) == 0)=true:=by simp;omega
      have hj0:0<j:=by omega
      have Hfin:=Jh (readAt_form hj9 hlt hbig.out (.inr ⟨by rw [Hx.out];omega,hj0⟩))
      clear h0 h9 Hstep
      go_wp2
      go_ret3
      rw [Hfin.out];exact ⟨rfl,rfl⟩
     ·have q2:((x.toNat:Int) == 0)=false:=by simp;omega
      have Hfin:=Jh (readAt_ok hj9 hlt hbig.out (by rw [Hx.out];omega) (by rw [Hx.out];omega))
      have Hs:=Hstep (by omega)
      have h128:(x.toNat:Int)<128:=by omega
      clear h0 h9 Hstep
      go_wp2
      go_ret3
      rw [Hfin.out];exact ⟨ret_u Hs.out,rfl⟩
   ·have q1:((j:Int) == 9)=false:=by simp;omega
    have Hs:=Hstep (by omega)
    clear Hstep
    by_cases h0:(x.toNat:Int)=0
    ·have q2:((x.toNat:Int) == 0)=true:=by simp;omega
     by_cases hj0:0<j
     ·have Hfin:=Jh (readAt_form hj9 hlt hbig.out (.inr ⟨by rw [Hx.out];omega,hj0⟩))
      clear h0 h9
      go_wp2
      go_ret3
      rw [Hfin.out];exact ⟨rfl,rfl⟩
     ·have Hfin:=Jh (readAt_ok hj9 hlt hbig.out (by rw [Hx.out];omega) (by rw [Hx.out];omega))
      have h128:(x.toNat:Int)<128:=by omega
      clear h0 h9
      go_wp2
      go_ret3
      rw [Hfin.out];exact ⟨ret_u Hs.out,rfl⟩
    ·have q2:((x.toNat:Int) == 0)=false:=by simp;omega
     by_cases h128:(x.toNat:Int)<128
     ·have Hfin:=Jh (readAt_ok hj9 hlt hbig.out (by rw [Hx.out];omega) (by rw [Hx.out];omega))
      clear h0 h9
      go_wp2
      go_ret3
      rw [Hfin.out];exact ⟨ret_u Hs.out,rfl⟩
     ·have hbig2:Hid (∀ t,t<j+1→128≤(r.getD t 0).toNat):=heads_step hbig.out hlt (by rw [Hx.out];omega)
      have hj8:j<9:=by omega
      clear h0 h9
      go_wp2
      go_round
      case rel=>exact ⟨j+1,by omega,by omega,by rw [Hs.out],by go_num,hbig2⟩
      case measure=>simp [intOf];omega
  ·have Hfin:=Jh (readAt_short (r:=r) (by omega) (fun t ht=>hbig.out t (by omega)))
   have hge:¬ j<n-k:=by omega
   clear hcells
   go_wp2
   go_ret3
   rw [Hfin.out];exact ⟨rfl,rfl⟩
theorem u_calls (w:World) {B:Nat} {A:Option Addr} {n c:Nat} {l:List UInt8} (hb:Bytes w B A n l) (at_:Int) (hc:n≤c) (hm:n≤9223372036854775807) :
  Calls Tryz.prog 134 #[.slice A n c,.int .i64 at_] w (RetU w (readU l at_)):=by
 unfold readU
 rw [hb.1]
 by_cases h:at_<0∨(n:Int)≤at_
 ·rw [if_pos h];exact u_out w at_ h
 ·rw [if_neg h]
  obtain ⟨k,rfl⟩:=Int.eq_ofNat_of_zero_le (show 0≤at_ by omega)
  exact u_in w hb k (by omega) hc hm
end Go.Proofs.YtibnehaibgbliaaGreat.Nu
