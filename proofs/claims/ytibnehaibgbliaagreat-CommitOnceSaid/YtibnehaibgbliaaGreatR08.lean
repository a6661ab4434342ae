/- Laws for the row's walk. -/
import Derived.Test.YtibnehaibgbliaaGreatR07
import Derived.Lib.SlBytesConst
set_option linter.unusedVariables false
set_option linter.unusedSimpArgs false
open Go.Lib renaming hid → Jh
namespace Go.Proofs.YtibnehaibgbliaaGreat.Cr
open Go.RowKit
structure Rep (T:Type) where
 size:Nat
 pos:0<size
 cells:World→Nat→T→List Value→Prop
 len:∀ {w:World} {B:Nat} {x:T} {cs:List Value},cells w B x cs→cs.length=size
 one:∀ {w:World} {B:Nat} {x:T} {cs:List Value},cells w B x cs→∀ u∈cs,u.oneCell'=true
 keep:∀ {w w':World} {B:Nat} {x:T} {cs:List Value},cells w B x cs→Below B w w'→cells w' B x cs
 more:∀ {w:World} {B B':Nat} {x:T} {cs:List Value},cells w B x cs→B≤B'→cells w B' x cs
theorem flat_len {α:Type} {s:Nat}:∀ (css:List (List α)),(∀ c∈css,c.length=s)→css.flatten.length=css.length*s
 | [],_=>by simp
 | c::r,h=>by
  have h1:=h c List.mem_cons_self
  have h2:=flat_len r (fun d hd=>h d (List.mem_cons_of_mem _ hd))
  simp only [List.flatten_cons,List.length_append,List.length_cons,h1,h2,Nat.succ_mul]
  omega
theorem flat_get {α:Type} {s:Nat}:∀ (css:List (List α)),(∀ c∈css,c.length=s)→∀ i (hi:i<css.length) j,j<s→css.flatten[i*s+j]?=css[i][j]?
 | [],_,i,hi,_,_=>absurd hi (by simp)
 | c::r,h,0,_,j,hj=>by
  have h1:=h c List.mem_cons_self
  simp only [List.flatten_cons,Nat.zero_mul,Nat.zero_add,List.getElem_cons_zero]
  rw [List.getElem?_append_left (by omega)]
 | c::r,h,i+1,hi,j,hj=>by
  have h1:=h c List.mem_cons_self
  have h2:=flat_get r (fun d hd=>h d (List.mem_cons_of_mem _ hd)) i (by simpa using hi) j hj
  simp only [List.flatten_cons,List.getElem_cons_succ]
  rw [List.getElem?_append_right (by rw [h1,Nat.succ_mul];omega),← h2]
  congr 1
  rw [h1,Nat.succ_mul];omega
section
variable {T:Type} (R:Rep T)
def Rep.all (w:World) (B:Nat) (l:List T) (css:List (List Value)):Prop:=css.length=l.length∧∀ i (h1:i<l.length) (h2:i<css.length),R.cells w B l[i] css[i]
def Sl (w:World) (B:Nat) (A:Option Addr) (l:List T):Prop:=∃ css,R.all w B l css∧Reads w B R.size A l.length css.flatten
end
section
variable {T:Type} {R:Rep T} {w w':World} {B B':Nat} {A:Option Addr} {l:List T} {css:List (List Value)}
theorem Rep.all.size (h:R.all w B l css):∀ c∈css,c.length=R.size:=by
 intro c hc
 obtain ⟨i,hi,rfl⟩:=List.getElem_of_mem hc
 exact R.len (h.2 i (by rw [← h.1];exact hi) hi)
theorem Rep.all.keep (h:R.all w B l css) (hb:Below B w w'):R.all w' B l css:=⟨h.1,fun i h1 h2=>R.keep (h.2 i h1 h2) hb⟩
theorem flat_take {α:Type} {s:Nat}:∀ (css:List (List α)) (_:∀ c∈css,c.length=s) (k:Nat),css.flatten.take (k*s)=(css.take k).flatten
 | [],_,k=>by simp
 | c::r,h,0=>by simp
 | c::r,h,k+1=>by
  have h1:=h c List.mem_cons_self
  have h2:=flat_take r (fun d hd=>h d (List.mem_cons_of_mem _ hd)) k
  simp only [List.flatten_cons,List.take_succ_cons]
  rw [List.take_append,h1,Nat.succ_mul,List.take_of_length_le (by omega),Nat.add_sub_cancel,h2]
theorem flat_drop {α:Type} {s:Nat}:∀ (css:List (List α)) (_:∀ c∈css,c.length=s) (k:Nat),css.flatten.drop (k*s)=(css.drop k).flatten
 | [],_,k=>by simp
 | c::r,h,0=>by simp
 | c::r,h,k+1=>by
  have h1:=h c List.mem_cons_self
  have h2:=flat_drop r (fun d hd=>h d (List.mem_cons_of_mem _ hd)) k
  simp only [List.flatten_cons,List.drop_succ_cons]
  rw [List.drop_append,h1,Nat.succ_mul,List.drop_of_length_le (by omega),Nat.add_sub_cancel,h2,List.nil_append]
theorem Sl.below (h:Sl R w B A l) (hb:Below B w w'):Sl R w' B A l:=by
 obtain ⟨css,h1,h2⟩:=h
 exact ⟨css,h1.keep hb,h2.below hb⟩
theorem Sl.at_ (h:Sl R w B A l) {i:Nat} (hi:i<l.length):∃ b off cs,A=some ⟨b,off,none⟩∧b<B∧R.cells w B l[i] cs∧∀ j u,cs[j]?=some u→w.cell? ⟨b,off+(i*R.size+j),none⟩=some u:=by
 obtain ⟨css,h1,h2⟩:=h
 have hl:=h1.1
 obtain ⟨b,off,e,hb,hc⟩:=h2.2 (by omega)
 have hx:=h1.2 i hi (by omega)
 refine ⟨b,off,css[i]'(by omega),e,hb,hx,fun j u hu=>hc _ u ?_⟩
 have hj:j<R.size:=by
  rcases Nat.lt_or_ge j R.size with h|h
  ·exact h
  ·rw [List.getElem?_eq_none (by rw [R.len hx];exact h)] at hu;cases hu
 rw [flat_get css h1.size i (by omega) j hj];exact hu
variable {base:Nat} {e:TypeId} {v:Value}
end
section
variable {P:Program} {T:Type} {R:Rep T} (w:World)
end
def bytesRep:Rep (List UInt8) where
 size:=1
 pos:=by omega
 cells:=fun w B x cs=>∃ A c,cs=[.slice A x.length c]∧x.length≤c∧x.length≤140737488351232∧Bytes w B A x.length x
 len:=fun ⟨_,_,h,_⟩=>by rw [h];rfl
 one:=fun ⟨_,_,h,_⟩ u hu=>by rw [h] at hu;simp at hu;rw [hu];rfl
 keep:=fun ⟨A,c,h,h1,h2,h3⟩ hb=>⟨A,c,h,h1,h2,h3.below hb⟩
 more:=fun ⟨A,c,h,h1,h2,h3⟩ hb=>⟨A,c,h,h1,h2,h3.more hb⟩
theorem bytes_at {w:World} {B:Nat} {A:Option Addr} {L:List (List UInt8)} (h:Sl bytesRep w B A L) {k:Nat} (hk:k<L.length) :
  ∃ b off Ak ck,A=some ⟨b,off,none⟩∧b<B∧w.cell? ⟨b,off+k,none⟩=some (.slice Ak L[k].length ck)∧L[k].length≤ck∧L[k].length≤140737488351232∧Bytes w B Ak L[k].length L[k]:=by
 obtain ⟨b,off,cs,e,hb,⟨Ak,ck,hcs,h1,h2,h3⟩,hc⟩:=h.at_ hk
 refine ⟨b,off,Ak,ck,e,hb,?_,h1,h2,h3⟩
 have:=hc 0 (.slice Ak L[k].length ck) (by rw [hcs];rfl)
 have e1:bytesRep.size=1:=rfl
 rw [e1,Nat.mul_one,Nat.add_zero] at this
 exact this
theorem bytes_one {w:World} {g B:Nat} {t:TypeId} {A:Option Addr} {c:Nat} {l:List UInt8} (hb:Blk w g t #[.slice A l.length c]) (h:Bytes w B A l.length l) (hc:l.length≤c) (hm:l.length≤140737488351232) (hg:g<B) :
  Sl bytesRep w B (some ⟨g,0,none⟩) [l]:=by
 refine ⟨[[.slice A l.length c]],⟨rfl,fun i h1 h2=>?_⟩,rfl,fun _=>⟨g,0,rfl,hg,fun j u hu=>?_⟩⟩
 ·obtain rfl:i=0:=by simp at h1;omega
  exact ⟨A,c,rfl,hc,hm,h⟩
 ·simp only [List.flatten_cons,List.flatten_nil,List.append_nil] at hu
  rw [Nat.zero_add,hb.cell j]
  match j,hu with
  | 0,hu=>exact hu
  | j+1,hu=>simp at hu
theorem wrote_next {T k:Nat} {L:List (List UInt8)} (hk:k<L.length) (h:T=4294967295-crcRun 4294967295 (L.take k).flatten):wroteN T L[k]=4294967295-crcRun 4294967295 (L.take (k+1)).flatten:=by
 have h1:=crcRun_lt (L.take k).flatten (c:=4294967295) (by decide)
 have e:4294967295-T=crcRun 4294967295 (L.take k).flatten:=by omega
 unfold wroteN
 rw [e,List.take_succ_eq_append_getElem hk,List.flatten_append,crcRun_app]
 simp
theorem wrote_zero (L:List (List UInt8)):0=4294967295-crcRun 4294967295 (L.take 0).flatten:=by simp [crcRun_nil]
theorem wrote_all {T:Nat} {L:List (List UInt8)} (h:T=4294967295-crcRun 4294967295 (L.take L.length).flatten):T=crcOf L.flatten:=by
 rw [h,List.take_length];rfl
set_option maxRecDepth 100000 in
set_option maxHeartbeats 800000 in
theorem sum_calls (w:World) {B c:Nat} {A:Option Addr} {L:List (List UInt8)} (h:Sl bytesRep w B A L) (hB:B≤w.heap.size) (hn:L.length≤140737488355328) :
  Calls Tryz.prog 97 #[.slice A L.length c] w fun e w'=>e=.returned (.int .u32 ((crcOf L.flatten:Nat):Int))∧Below w.heap.size w w':=by
 go_enter Tryz.func97,Tryz.ntmps97
 go_wp2
 go_loopw [8] (fun i wr=>∃ (T k:Nat),i=.int .i64 (k:Int)∧T≤4294967295∧k≤L.length∧Hid (T=4294967295-crcRun 4294967295 (L.take k).flatten)∧Blk wr w.heap.size 184 #[.int .u32 (T:Int)]∧Below w.heap.size w wr) (fun i _=>L.length-(intOf i).toNat)
 case atStart=>exact ⟨0,0,rfl,by omega,by omega,Jh (wrote_zero L),Blk.new w _ _,(Below.refl _ _).alloc (Nat.le_refl _) _⟩
 case round =>
  obtain ⟨T,k,rfl,hT,hk,hrun,hblk,hbel⟩:=hrel
  by_cases hlt:k<L.length
  ·have hs:=h.below (hbel.mono hB)
   obtain ⟨b,off,Ak,ck,rfl,hbB,hcell,h1,h2,h3⟩:=bytes_at hs hlt
   have Hn:=Jh (wrote_next hlt hrun.out)
   have hT':wroteN T L[k]≤4294967295:=by unfold wroteN;omega
   go_wp2_with fail
   refine (write_calls wr hblk h3 hT (by omega)).mono ?_
   rintro en w1 ⟨rfl,hblk1,ho⟩
   have hbel1:Below w.heap.size w w1:=hbel.trans (ho.below (Nat.le_refl _) hbel.size)
   go_wp2
   go_roundw
   case rel=>exact ⟨wroteN T L[k],k+1,by go_num,hT',by omega,Hn,hblk1,hbel1⟩
   case measure=>simp [intOf];omega
  ·have hk2:k=L.length:=by omega
   subst hk2
   have Hf:=Jh (wrote_all hrun.out)
   go_wp2_with fail
   refine (dsum_calls wr hblk).mono ?_
   rintro en w' ⟨rfl,rfl⟩
   go_wp2
   go_ret
   exact ⟨by rw [← Hf.out];rfl,hbel⟩
theorem size_alloc_ (w:World) (o:Obj):(w.alloc o).heap.size=w.heap.size+1:=Array.size_push ..
theorem sum1_calls (w:World) {B n c:Nat} {A:Option Addr} {l:List UInt8} (h:Bytes w B A n l) (hB:B≤w.heap.size) (hn:n≤c) (hc:n≤140737488351232) :
  Calls Tryz.prog 97 #[.slice (some ⟨w.heap.size,0,none⟩) 1 1] (w.alloc (.cells #[.slice A n c] 33)) fun e w'=>e=.returned (.int .u32 ((crcOf l:Nat):Int))∧Below w.heap.size w w':=by
 have hl:=h.len
 subst hl
 have hb:Below w.heap.size w (w.alloc (.cells #[.slice A l.length c] 33)):=(Below.refl _ _).alloc (Nat.le_refl _) _
 have hs:(w.alloc (.cells #[.slice A l.length c] 33)).heap.size=w.heap.size+1:=size_alloc_ w _
 have h1:Sl bytesRep _ (w.heap.size+1) (some ⟨w.heap.size,0,none⟩) [l]:=bytes_one (Blk.new w 33 #[.slice A l.length c]) (h.to (hb.mono hB) (by omega)) hn hc (by omega)
 refine (sum_calls (c:=1) _ h1 (by omega) (by simp)).mono ?_
 rintro e w' ⟨rfl,h2⟩
 refine ⟨by simp,hb.trans (h2.mono (by omega))⟩
theorem four_vals {n:Nat} (hn:n<4294967296):(four n).map byteV=[.int .u8 ((n:Int)%256),.int .u8 ((n:Int)/256%256),.int .u8 ((n:Int)/65536%256),.int .u8 ((n:Int)/16777216)]:=by
 simp only [four,List.map_cons,List.map_nil,byteV,UInt8.toNat_ofNat',List.cons.injEq,Value.int.injEq,true_and,and_true]
 omega
set_option maxRecDepth 100000 in
set_option maxHeartbeats 800000 in
theorem four_calls (n:Nat) (w:World) (hn:n<4294967296) :
  Calls Tryz.prog 76 #[.int .u32 (n:Int)] w (RetBytes 5 w (four n)):=by
 go_enter Tryz.func76,Tryz.ntmps76
 go_wp2
 go_ret
 have hv:=four_vals hn
 refine ⟨_,rfl,?_,(Below.refl _ _).alloc (Nat.le_refl _) _⟩
 rw [hv]
 exact World.ownsRow_lit (size:=1) w #[.int .u8 ((n:Int)%256),.int .u8 ((n:Int)/256%256),.int .u8 ((n:Int)/65536%256),.int .u8 ((n:Int)/16777216)] 4 (Nat.le_refl _) (by simp [maxLen]) rfl
theorem wpList_make_any {P:Program} (w:World) {ops:Array Oper} {rest:List Oper} {o:Oper} {a:Act} {Q:Exit→Act→World→Prop}
  (hg:o.guard=none) (l c:Operand) (t:TypeId) (hop:o.op=Op.makeSlice t l c)
  (base:Nat) (e:TypeId) (z:Value) (size bytes:Nat) (h1:P.underlying t=some (.slice e)) (hi:(P.info? e).map (fun i=>(i.zero,i.size,i.bytes))=some (some z,size,bytes))
  (kl kc:IntKind) (C:Int) (n:Nat) (hl:a.eval l=.int kl 0) (hc:a.eval c=.int kc C) (hC:C=(n:Int)) (b2:bytes*n≤281474976710656) (b3:n≤maxLen) (b4:base≤w.heap.size)
  (hK:∀ w',w'.ownsRow base e size (.slice (some ⟨w.heap.size,0,none⟩) 0 n) 0 []→Below w.heap.size w w'→wpList P ops Q rest (a.put o.dst (.slice (some ⟨w.heap.size,0,none⟩) 0 n)) w') :
  wpList P ops Q (o::rest) a w:=by
 rcases hj:P.info? e with _|i
 ·rw [hj] at hi;cases hi
 ·rw [hj] at hi
  simp only [Option.map_some,Option.some.injEq,Prod.mk.injEq] at hi
  obtain ⟨e1,e2,e3⟩:=hi
  refine wpList_make_own w hg l c t hop base e i z size h1 hj e1 e2 kl kc C n hl hc hC (by rw [e3];exact b2) b3 b4 ?_
  intro w' h3 h4
  exact hK w' h3 ((Below.refl _ _).grown h4 (Nat.le_refl _) (by intro g hg;cases hg))
set_option maxRecDepth 100000 in
set_option maxHeartbeats 800000 in
theorem sealR_calls (w:World) {B n c:Nat} {A:Option Addr} {l:List UInt8} (h:Bytes w B A n l) (hB:B≤w.heap.size) (hn:n≤140737488350000) :
  Calls Tryz.prog 40 #[.slice A n c] w (RetBytes 5 w (cseal l)):=by
 have hl:=h.len
 subst hl
 go_enter Tryz.func40,Tryz.ntmps40
 go_wp2_with fail
 refine (twin_calls w h hB (by omega)).mono ?_
 rintro e w1 he
 obtain ⟨A1,c1,rfl,hc1,hm1,hb1,hbel1,hown1⟩:=he.opened
 go_wp2_with fail
 refine (sumR_calls w1 (h.below (hbel1.mono hB)) (by omega)).mono ?_
 rintro e w' ⟨rfl,rfl⟩
 go_wp2_with fail
 refine (four_calls (crcOf l) w1 (crcOf_lt l)).mono ?_
 rintro e w2 he2
 obtain ⟨A2,c2,rfl,hc2,hm2,hb2,hbel2,hown2⟩:=he2.opened
 have hown1':=own_below hown1 hbel2
 have s2:=hbel1.size
 have s3:=hbel2.size
 have h5:l.length+(four (crcOf l)).length≤maxLen:=by have h4:(four (crcOf l)).length=4:=rfl;unfold maxLen;omega
 have h6:(l.length+(four (crcOf l)).length)*1≤140737488355328:=by have h4:(four (crcOf l)).length=4:=rfl;omega
 clear he he2
 go_wp2_with (at_builtin;go_must (refine wpList_append_any _ rfl (.tmp 4) (.tmp 7) _ rfl w.heap.size 5 _ 1 1 Tryz.underlying33 Tryz.infoU8 rfl (by omega) _ _ _ rfl hown1' w2.heap.size A2 _ c2 ((four (crcOf l)).map byteV) rfl hb2.2 (byteV_one _) h5 h6 (by omega) ?_))
 intro v' w3 hown3 hbel3 _ _
 have hown4:w3.ownsRow w.heap.size 5 1 v' (cseal l).length ((cseal l).map byteV):=by unfold cseal;rw [List.length_append,List.map_append];exact hown3
 have hbel4:Below w.heap.size w w3:=hbel1.trans ((hbel2.mono (by omega)).trans hbel3)
 clear hown3 hown1 hown1' hown2
 go_wp2
 go_ret
 exact ⟨_,rfl,hown4,hbel4⟩
set_option maxRecDepth 100000 in
set_option maxHeartbeats 800000 in
theorem seal_calls (w:World) {B n c:Nat} {A:Option Addr} {l:List UInt8} (h:Bytes w B A n l) (hB:B≤w.heap.size) (hn:n≤c) (hc:n≤140737488351232) (hn2:n≤140737488350000) :
  Calls Tryz.prog 62 #[.slice A n c] w (RetBytes 5 w (cseal l)):=by
 have hl:=h.len
 subst hl
 go_enter Tryz.func62,Tryz.ntmps62
 go_wp2_with fail
 refine (sum1_calls w h hB hn hc).mono ?_
 rintro e w1 ⟨rfl,hbel1⟩
 have s1:=hbel1.size
 have h1:=h.below (hbel1.mono hB)
 go_wp2_with (first
  | (at_make;refine wpList_make_any _ rfl _ _ 33 rfl w.heap.size 5 _ 1 1 Tryz.underlying33 Tryz.infoU8 .i64 .i64 _ (l.length+4) rfl rfl (by omega) (by omega) (by unfold maxLen;omega) (by omega) ?_;intro w2 hown2 hbel2;have h2:=h1.below (hbel2.mono (show B≤w1.heap.size by omega));have s2:=hbel2.size)
  | (at_builtin;go_must (refine wpList_append_sl _ rfl (.tmp 11) (.tmp 12) _ rfl w.heap.size 5 _ 1 1 Tryz.underlying33 Tryz.infoU8 rfl (by omega) _ _ _ rfl hown2 B A l.length c (l.map byteV) rfl h2.2 (byteV_one _) (by unfold maxLen;omega) (by omega) (by omega) ?_)))
 intro A3 c3 w3 k1 k2 _ hbel3 hown3 _ _
 have s3:=hbel3.size
 have hown4:w3.ownsRow w.heap.size 5 1 (.slice A3 l.length c3) l.length (l.map byteV):=by simpa using hown3
 have hC:=crcOf_lt l
 have hv:=Jh (four_vals hC)
 have hcs:cseal l=l++four (crcOf l):=rfl
 have Hcs:=Jh hcs
 clear hcs hown3
 generalize crcOf l=C at *
 have hr:=Reads.made (n:=4) (size:=1) w3 #[.int .u8 ((C:Int)%256),.int .u8 ((C:Int)/256%256),.int .u8 ((C:Int)/65536%256),.int .u8 ((C:Int)/16777216)] 5 rfl
 have ho:=hown4.alloc (.cells #[.int .u8 ((C:Int)%256),.int .u8 ((C:Int)/256%256),.int .u8 ((C:Int)/65536%256),.int .u8 ((C:Int)/16777216)] 5)
 have hb4:Below w.heap.size w (w3.alloc (.cells #[.int .u8 ((C:Int)%256),.int .u8 ((C:Int)/256%256),.int .u8 ((C:Int)/65536%256),.int .u8 ((C:Int)/16777216)] 5)):=((hbel1.trans (hbel2.mono s1)).trans hbel3).alloc (by omega) _
 have s4:=hb4.size
 go_wp2_with (at_builtin;go_must (refine wpList_append_any _ rfl (.tmp 14) (.tmp 26) _ rfl w.heap.size 5 _ 1 1 Tryz.underlying33 Tryz.infoU8 rfl (by omega) _ _ _ rfl ho _ _ _ _ _ rfl hr (by intro u hu;simp at hu;rcases hu with rfl|rfl|rfl|rfl<;>rfl) (by unfold maxLen;omega) (by omega) s4 ?_))
 intro v' w5 hown5 hbel5 _ _
 have hbel6:=hb4.trans hbel5
 clear hown4 ho hr hb4 hown2
 go_wp2
 go_ret
 refine ⟨_,rfl,?_,hbel6⟩
 rw [Hcs.out,List.length_append,List.map_append,hv.out]
 exact hown5
def RetOpen (w:World) (r:List UInt8 × Nat) (e:Ending) (w':World):Prop:=∃ v,e=.returned (.tuple #[v,.int .i64 (r.2:Int)])∧w'.ownsRow w.heap.size 5 1 v r.1.length (r.1.map byteV)∧Below w.heap.size w w'
theorem RetOpen.opened {w w':World} {r:List UInt8 × Nat} {e:Ending} (h:RetOpen w r e w') :
  ∃ A c,e=.returned (.tuple #[.slice A r.1.length c,.int .i64 (r.2:Int)])∧r.1.length≤c∧c≤maxLen∧Bytes w' w'.heap.size A r.1.length r.1∧Below w.heap.size w w'∧w'.ownsRow w.heap.size 5 1 (.slice A r.1.length c) r.1.length (r.1.map byteV):=by
 obtain ⟨v,rfl,h2,h3⟩:=h
 obtain ⟨A,c,rfl,k1,k2,k3⟩:=own_slice h2
 exact ⟨A,c,rfl,k1,k2,own_bytes h2,h3,h2⟩
theorem copen_short {s:List UInt8} (h:s.length<4):copen s=([],3):=by unfold copen;rw [if_pos h]
theorem copen_good {s:List UInt8} (h:4≤s.length) (h2:s.drop (s.length-4)=four (crcOf (s.take (s.length-4)))):copen s=(s.take (s.length-4),0):=by unfold copen;rw [if_neg (by omega),if_pos h2]
theorem copen_bad {s:List UInt8} (h:4≤s.length) (h2:¬ s.drop (s.length-4)=four (crcOf (s.take (s.length-4)))):copen s=([],6):=by unfold copen;rw [if_neg (by omega),if_neg h2]
theorem cseal_eq {s:List UInt8}:(cseal (s.take (s.length-4)) == s)=decide (s.drop (s.length-4)=four (crcOf (s.take (s.length-4)))):=by
 have e:cseal (s.take (s.length-4))=s↔s.drop (s.length-4)=four (crcOf (s.take (s.length-4))):=by
  unfold cseal
  constructor
  ·intro h
   conv at h=>rhs;rw [← List.take_append_drop (s.length-4) s]
   exact (List.append_cancel_left h).symm
  ·intro h
   rw [← h,List.take_append_drop]
 by_cases h:cseal (s.take (s.length-4))=s
 ·rw [decide_eq_true (e.1 h),beq_iff_eq];exact h
 ·rw [decide_eq_false (fun h2=>h (e.2 h2))]
  exact beq_eq_false_iff_ne.2 h
set_option maxRecDepth 100000 in
set_option maxHeartbeats 800000 in
theorem openR_calls (w:World) {B n c:Nat} {A:Option Addr} {s:List UInt8} (h:Bytes w B A n s) (hB:B≤w.heap.size) (hnc:n≤c) (hn:n≤140737488350000) :
  Calls Tryz.prog 78 #[.slice A n c] w (RetOpen w (copen s)):=by
 have hl:=h.len
 subst hl
 by_cases hs:s.length<4
 ·have H:=Jh (copen_short hs)
  go_enter Tryz.func78,Tryz.ntmps78
  go_wp2
  go_ret2
  rw [H.out]
  exact ⟨.slice none 0 0,rfl,World.ownsRow_nil _ _ _ _,Below.refl _ _⟩
 ·have hm:(s.length:Int)-4=((s.length-4:Nat):Int):=by omega
  have hlt:(s.take (s.length-4)).length=s.length-4:=by rw [List.length_take];omega
  have ht:=h.taken (k:=s.length-4) (by omega)
  have Ht:=Jh hlt
  have Hm:=Jh hm
  clear hlt hm
  go_enter Tryz.func78,Tryz.ntmps78
  go_wp2_with fail
  refine (sealR_calls w ht hB (by omega)).mono ?_
  rintro e w1 he
  obtain ⟨A1,c1,rfl,hc1,hm1,hb1,hbel1,_⟩:=he.opened
  clear he
  have s1:=hbel1.size
  have h1:=h.below (hbel1.mono hB)
  have ht1:=ht.below (hbel1.mono hB)
  have E:=Jh (cseal_eq (s:=s))
  go_wp2_with fail
  refine (same_calls w1 (c1:=c1) (c2:=c) hb1 h1).mono ?_
  rintro e w' ⟨rfl,rfl⟩
  by_cases hg:s.drop (s.length-4)=four (crcOf (s.take (s.length-4)))
  ·have q:(cseal (s.take (s.length-4)) == s)=true:=by rw [E.out];exact decide_eq_true hg
   have H:=Jh (copen_good (by omega) hg)
   clear hg
   go_wp2_with fail
   refine (twin_calls w1 ht1 (by omega) (by omega)).mono ?_
   rintro e w2 he
   obtain ⟨v,rfl,hown,hbel2⟩:=he
   have hown':=own_base hown s1
   go_wp2
   go_ret2
   rw [H.out]
   exact ⟨v,rfl,hown',hbel1.trans (hbel2.mono s1)⟩
  ·have q:(cseal (s.take (s.length-4)) == s)=false:=by rw [E.out];exact decide_eq_false hg
   have H:=Jh (copen_bad (by omega) hg)
   clear hg
   go_wp2
   go_ret2
   rw [H.out]
   exact ⟨.slice none 0 0,rfl,World.ownsRow_nil _ _ _ _,hbel1⟩
theorem tk_next {T F:List UInt8} {k:Nat} (h:T.take k=F.take k) (hT:k<T.length) (hF:k<F.length) (he:T[k]=F[k]):T.take (k+1)=F.take (k+1):=by
 rw [List.take_succ_eq_append_getElem hT,List.take_succ_eq_append_getElem hF,h,he]
theorem four_0 {C:Nat} (_:C<2 ^ 32):(((four C)[0]'(by show 0<4;omega)).toNat:Int)=(C:Int)%256:=by
 show ((UInt8.ofNat C).toNat:Int)=_
 rw [UInt8.toNat_ofNat'];omega
theorem four_1 {C:Nat} (_:C<2 ^ 32):(((four C)[1]'(by show 1<4;omega)).toNat:Int)=(C:Int)/256%256:=by
 show ((UInt8.ofNat (C/256)).toNat:Int)=_
 rw [UInt8.toNat_ofNat'];omega
theorem four_2 {C:Nat} (_:C<2 ^ 32):(((four C)[2]'(by show 2<4;omega)).toNat:Int)=(C:Int)/65536%256:=by
 show ((UInt8.ofNat (C/65536)).toNat:Int)=_
 rw [UInt8.toNat_ofNat'];omega
theorem four_3 {C:Nat} (_:C<2 ^ 32):(((four C)[3]'(by show 3<4;omega)).toNat:Int)=(C:Int)/16777216:=by
 show ((UInt8.ofNat (C/16777216)).toNat:Int)=_
 rw [UInt8.toNat_ofNat'];omega
set_option maxRecDepth 100000 in
set_option maxHeartbeats 2000000 in
theorem open_calls (w:World) {B n c:Nat} {A:Option Addr} {s:List UInt8} (h:Bytes w B A n s) (hB:B≤w.heap.size) (hnc:n≤c) (hn:n≤140737488350000) :
  Calls Tryz.prog 65 #[.slice A n c] w (RetOpen w (copen s)):=by
 have hl:=h.len
 subst hl
 by_cases hs:s.length<4
 ·have H:=Jh (copen_short hs)
  go_enter Tryz.func65,Tryz.ntmps65
  go_wp2
  go_ret2
  rw [H.out]
  exact ⟨.slice none 0 0,rfl,World.ownsRow_nil _ _ _ _,Below.refl _ _⟩
 ·have ht:=h.taken (k:=s.length-4) (by omega)
  have hd:=h.cutted (k:=s.length-4) (c:=c) (by omega) hnc
  obtain ⟨b,off,rfl,hbB,hx0⟩:=h.cell (i:=0) (by omega)
  clear hx0
  rw [if_neg (by omega),show s.length-(s.length-4)=4 by omega,Option.map_some,addr_add] at hd
  have q4:s.length-(s.length-4)=4:=by omega
  have Q4:=Jh q4
  clear q4
  go_enter Tryz.func65,Tryz.ntmps65
  go_wp2_with fail
  refine (sum1_calls w ht hB (by omega) (by omega)).mono ?_
  rintro e w1 ⟨rfl,hbel1⟩
  have s1:=hbel1.size
  have ht1:=ht.below (hbel1.mono hB)
  have hd1:=hd.below (hbel1.mono hB)
  have hC:=crcOf_lt (s.take (s.length-4))
  clear ht hd h
  generalize hCC:crcOf (s.take (s.length-4))=C at *
  have HC:=Jh hCC
  clear hCC
  generalize hT:s.drop (s.length-4)=T at *
  have HT:=Jh hT
  clear hT
  go_wp2_with fail
  go_loop [22] (fun i=>∃ k:Nat,i=.int .i64 (k:Int)∧k≤4∧Hid (T.take k=(four C).take k)) (fun i=>4-(intOf i).toNat)
  case atStart=>exact ⟨0,rfl,by omega,Jh rfl⟩
  case round =>
   obtain ⟨k,rfl,hk,hrun⟩:=hrel
   by_cases hlt:k<4
   ·obtain ⟨b',off',e',_,hcell⟩:=hd1.cell hlt
    injection e' with e';injection e' with e1 e2;subst e1 e2
    have hck:=hcell k hlt
    have hkT:k<T.length:=by have:=hd1.len;omega
    obtain rfl|rfl|rfl|rfl:k=0∨k=1∨k=2∨k=3:=by omega
    ·rw [Nat.add_zero] at hck
     by_cases ht:T[0]=(four C)[0]'(by show 0<4;omega)
     ·have q:((T[0].toNat:Int) != (C:Int)%256)=false:=nef (by rw [ht];exact four_0 hC)
      have Hn:=Jh (tk_next hrun.out hkT (show 0<4 by omega) ht)
      clear ht
      go_wp2
      go_round
      case rel=>exact ⟨1,by go_num,by omega,Hn⟩
      case measure=>simp [intOf]
     ·have q:((T[0].toNat:Int) != (C:Int)%256)=true:=net (fun h=>ht (UInt8.toNat_inj.1 (by have:=four_0 hC;omega)))
      have H:=Jh (copen_bad (s:=s) (by omega) (by rw [HT.out,HC.out];intro h;exact ht (by simp only [h])))
      clear ht
      go_wp2
      go_ret2
      rw [H.out]
      exact ⟨.slice none 0 0,rfl,World.ownsRow_nil _ _ _ _,hbel1⟩
    ·by_cases ht:T[1]=(four C)[1]'(by show 1<4;omega)
     ·have q:((T[1].toNat:Int) != (C:Int)/256%256)=false:=nef (by rw [ht];exact four_1 hC)
      have Hn:=Jh (tk_next hrun.out hkT (show 1<4 by omega) ht)
      clear ht
      go_wp2
      go_round
      case rel=>exact ⟨2,by go_num,by omega,Hn⟩
      case measure=>simp [intOf]
     ·have q:((T[1].toNat:Int) != (C:Int)/256%256)=true:=net (fun h=>ht (UInt8.toNat_inj.1 (by have:=four_1 hC;omega)))
      have H:=Jh (copen_bad (s:=s) (by omega) (by rw [HT.out,HC.out];intro h;exact ht (by simp only [h])))
      clear ht
      go_wp2
      go_ret2
      rw [H.out]
      exact ⟨.slice none 0 0,rfl,World.ownsRow_nil _ _ _ _,hbel1⟩
    ·by_cases ht:T[2]=(four C)[2]'(by show 2<4;omega)
     ·have q:((T[2].toNat:Int) != (C:Int)/65536%256)=false:=nef (by rw [ht];exact four_2 hC)
      have Hn:=Jh (tk_next hrun.out hkT (show 2<4 by omega) ht)
      clear ht
      go_wp2
      go_round
      case rel=>exact ⟨3,by go_num,by omega,Hn⟩
      case measure=>simp [intOf]
     ·have q:((T[2].toNat:Int) != (C:Int)/65536%256)=true:=net (fun h=>ht (UInt8.toNat_inj.1 (by have:=four_2 hC;omega)))
      have H:=Jh (copen_bad (s:=s) (by omega) (by rw [HT.out,HC.out];intro h;exact ht (by simp only [h])))
      clear ht
      go_wp2
      go_ret2
      rw [H.out]
      exact ⟨.slice none 0 0,rfl,World.ownsRow_nil _ _ _ _,hbel1⟩
    ·by_cases ht:T[3]=(four C)[3]'(by show 3<4;omega)
     ·have q:((T[3].toNat:Int) != (C:Int)/16777216)=false:=nef (by rw [ht];exact four_3 hC)
      have Hn:=Jh (tk_next hrun.out hkT (show 3<4 by omega) ht)
      clear ht
      go_wp2
      go_round
      case rel=>exact ⟨4,by go_num,by omega,Hn⟩
      case measure=>simp [intOf]
     ·have q:((T[3].toNat:Int) != (C:Int)/16777216)=true:=net (fun h=>ht (UInt8.toNat_inj.1 (by have:=four_3 hC;omega)))
      have H:=Jh (copen_bad (s:=s) (by omega) (by rw [HT.out,HC.out];intro h;exact ht (by simp only [h])))
      clear ht
      go_wp2
      go_ret2
      rw [H.out]
      exact ⟨.slice none 0 0,rfl,World.ownsRow_nil _ _ _ _,hbel1⟩
   ·have hk4:k=4:=by omega
    subst hk4
    have hTF:T=four C:=by
     have h1:=hrun.out
     rw [List.take_of_length_le (by have:=hd1.len;omega),List.take_of_length_le (by show 4≤4;omega)] at h1
     exact h1
    have H:=Jh (copen_good (s:=s) (by omega) (by rw [HT.out,HC.out];exact hTF))
    clear hTF
    have htl:(s.take (s.length-4)).length=s.length-4:=by rw [List.length_take];omega
    have Htl:=Jh htl
    clear htl
    have hs4:w.heap.size≤(w1.alloc (.cells #[] 5)).heap.size:=by rw [size_alloc_];omega
    have hb4:Below w.heap.size w (w1.alloc (.cells #[] 5)):=hbel1.alloc s1 _
    have ht2:=ht1.below ((Below.refl B w1).alloc (by omega) (.cells #[] 5))
    go_wp2_with (at_builtin;go_must (refine wpList_append_any _ rfl (.tmp 35) (.tmp 38) _ rfl w.heap.size 5 _ 1 1 Tryz.underlying33 Tryz.infoU8 rfl (by omega) _ _ _ rfl (World.ownsRow_made w1 #[] 0 s1 (Nat.zero_le _) rfl) B _ (s.length-4) c ((s.take (s.length-4)).map byteV) rfl ht2.2 (byteV_one _) (by unfold maxLen;omega) (by omega) hs4 ?_))
    intro v' w5 hown5 hbel5 _ _
    have hbel6:=hb4.trans hbel5
    clear hbel5 hb4
    go_wp2
    go_ret2
    rw [H.out]
    refine ⟨v',rfl,?_,hbel6⟩
    rw [Htl.out]
    simpa using hown5
end Go.Proofs.YtibnehaibgbliaaGreat.Cr
namespace Go.Proofs.YtibnehaibgbliaaGreat.Mf
open Go.RowKit Go.Proofs.YtibnehaibgbliaaGreat
def rdE (l:List UInt8) (k e:Nat):En × Nat × Nat :=
 match Nu.curText l k e 40 with
 | (a,k,e)=>match Nu.curNum l k e most with
 | (n1,k,e)=>match Nu.curText l k e 1024 with
 | (b,k,e)=>match Nu.curNum l k e most with
 | (n2,k,e)=>match Nu.curNum l k e most with
 | (n3,k,e)=>match Nu.curNum l k e most with
 | (n4,k,e)=>match Nu.curNum l k e most with
 | (n5,k,e)=>match Nu.curNum l k e 4294967295 with
 | (n6,k,e)=>match Nu.curNum l k e most with
 | (n7,k,e)=>(⟨⟨a.toArray⟩,n1,⟨b.toArray⟩,n2,n3,n4,n5,n6,n7⟩,k,e)
def rdK (l:List UInt8) (k e:Nat):Mk × Nat × Nat :=
 match Nu.curNum l k e most with
 | (n1,k,e)=>match Nu.curNum l k e most with
 | (n2,k,e)=>(⟨n1,n2⟩,k,e)
def rdO (l:List UInt8) (k e:Nat):Ow × Nat × Nat :=
 match Nu.curNum l k e most with
 | (n1,k,e)=>match Nu.curNum l k e most with
 | (n2,k,e)=>match Nu.curNum l k e most with
 | (n3,k,e)=>(⟨n1,n2,n3⟩,k,e)
def rdL {α:Type} (f:Nat→Nat→α × Nat × Nat):Nat→Nat→Nat→List α × Nat × Nat
 | 0,k,e=>([],k,e)
 | n+1,k,e=>match rdL f n k e with
  | (xs,k,e)=>match f k e with
   | (x,k,e)=>(xs++[x],k,e)
def rdM (l:List UInt8) (k e:Nat):Md × Nat × Nat :=
 match Nu.curNum l k e most with
 | (g,k,e)=>match Nu.curNum l k e most with
 | (c,k,e)=>match Nu.curNum l k e most with
 | (f,k,e)=>match Nu.curNum l k e 256 with
 | (n,k,e)=>match rdL (rdE l) n k e with
 | (E,k,e)=>match Nu.curNum l k e 64 with
 | (n,k,e)=>match rdL (rdK l) n k e with
 | (M,k,e)=>match Nu.curNum l k e 8 with
 | (n,k,e)=>match rdL (rdO l) n k e with
 | (O,k,e)=>(⟨g,c,f,E,M,O⟩,k,e)
def nilM:Md:=⟨0,0,0,[],[],[]⟩
open Classical in
noncomputable def decT (l:List UInt8):Md × Int :=
 match Nu.curBytes l 0 0 5 with
 | (h,k,e)=>match rdM l k e with
 | (m,k,e)=>if h=head5∧Nu.curEnd l k e=0∧rightB m=true then (m,0) else (nilM,4)
noncomputable def decB (b:List UInt8):Md × Int:=if (Cr.copen b).2≠0 then (nilM,((Cr.copen b).2:Int)) else decT (Cr.copen b).1
def At (l:List UInt8) (k:Nat) (r:List UInt8):Prop:=k≤l.length∧l.drop k=r
theorem At.app {l:List UInt8} {k:Nat} {a r:List UInt8} (h:At l k (a++r)):At l (k+a.length) r:=by
 have hl:=congrArg List.length h.2
 rw [List.length_drop,List.length_append] at hl
 refine ⟨by have:=h.1;omega,?_⟩
 rw [← List.drop_drop,h.2,List.drop_left]
theorem At.some {l:List UInt8} {k:Nat} {a r:List UInt8} (h:At l k (a++r)) (ha:0<a.length):k<l.length:=by
 have hl:=congrArg List.length h.2
 rw [List.length_drop,List.length_append] at hl
 omega
theorem u_at {l:List UInt8} {k n:Nat} {r:List UInt8} (h:At l k (Nu.putU n++r)) (hn:n≤18446744073709551615):Nu.curU l k 0=(n,k+(Nu.putU n).length,0):=by
 have hlt:=h.some (Nu.putU_pos n)
 unfold Nu.curU Nu.readU
 rw [if_neg (by omega),if_neg (by omega),Int.toNat_natCast,h.2,Nu.readAt_putU hn]
theorem num_at {l:List UInt8} {k:Nat} {n mo:Int} {r:List UInt8} (h:At l k (us [n]++r)) (h0:0≤n) (hm:n≤mo) (hmo:mo≤18446744073709551615) :
  ∃ k',Nu.curNum l k 0 mo=(n.toNat,k',0)∧At l k' r∧((n.toNat:Nat):Int)=n:=by
 rw [us_cons,us_nil,List.append_nil] at h
 refine ⟨_,?_,h.app,by omega⟩
 rw [Nu.curNum_3 (u_at h (by omega)) (by omega)]
theorem text_at {l:List UInt8} {k:Nat} {s:ByteArray} {mo:Int} {r:List UInt8} (h:At l k (us [(s.size:Int)]++(s.data.toList++r))) (hm:(s.size:Int)≤mo) (hmo:mo≤18446744073709551615) :
  ∃ k',Nu.curText l k 0 mo=(s.data.toList,k',0)∧At l k' r:=by
 rw [us_cons,us_nil,List.append_nil,Int.toNat_natCast] at h
 have h2:=h.app
 have hs:s.data.toList.length=s.size:=rfl
 have hl:=congrArg List.length h2.2
 rw [List.length_drop,List.length_append] at hl
 refine ⟨_,?_,h2.app⟩
 rw [Nu.curText_4 (u_at h (by omega)) (by omega) (by omega),h2.2,← hs,List.take_left]
theorem rdE_at {l:List UInt8} {k:Nat} {x:En} {r:List UInt8} (h:At l k (encE x++r)) (hx:x.In):∃ k',rdE l k 0=(x,k',0)∧At l k' r:=by
 have hmo:most≤18446744073709551615:=by decide
 unfold encE at h
 rw [List.append_assoc,List.append_assoc,List.append_assoc,List.append_assoc] at h
 obtain ⟨k1,e1,h⟩:=text_at h (mo:=40) (by have:=hx.key;omega) (by omega)
 rw [us_split _ _ _ (by simp)] at h
 obtain ⟨k2,e2,h,i2⟩:=num_at h hx.window.1 hx.window.2 hmo
 obtain ⟨k3,e3,h⟩:=text_at h (mo:=1024) (by have:=hx.part;omega) (by omega)
 rw [us_split _ _ _ (by simp)] at h
 obtain ⟨k4,e4,h,i4⟩:=num_at h hx.first.1 hx.first.2 hmo
 rw [us_split _ _ _ (by simp)] at h
 obtain ⟨k5,e5,h,i5⟩:=num_at h hx.last.1 hx.last.2 hmo
 rw [us_split _ _ _ (by simp)] at h
 obtain ⟨k6,e6,h,i6⟩:=num_at h hx.rows.1 hx.rows.2 hmo
 rw [us_split _ _ _ (by simp)] at h
 obtain ⟨k7,e7,h,i7⟩:=num_at h hx.size.1 hx.size.2 hmo
 rw [us_split _ _ _ (by simp)] at h
 obtain ⟨k8,e8,h,i8⟩:=num_at h hx.sum.1 hx.sum.2 (by omega)
 obtain ⟨k9,e9,h,i9⟩:=num_at h hx.born.1 hx.born.2 hmo
 refine ⟨k9,?_,h⟩
 simp only [rdE,e1,e2,e3,e4,e5,e6,e7,e8,e9,i2,i4,i5,i6,i7,i8,i9]
theorem rdK_at {l:List UInt8} {k:Nat} {x:Mk} {r:List UInt8} (h:At l k (encK x++r)) (h1:0≤x.maker∧x.maker≤most) (h2:0≤x.seq∧x.seq≤most):∃ k',rdK l k 0=(x,k',0)∧At l k' r:=by
 have hmo:most≤18446744073709551615:=by decide
 unfold encK at h
 rw [us_split _ _ _ (by simp)] at h
 obtain ⟨k1,e1,h,i1⟩:=num_at h h1.1 h1.2 hmo
 obtain ⟨k2,e2,h,i2⟩:=num_at h h2.1 h2.2 hmo
 exact ⟨k2,by simp only [rdK,e1,e2,i1,i2],h⟩
theorem rdO_at {l:List UInt8} {k:Nat} {x:Ow} {r:List UInt8} (h:At l k (encO x++r)) (h1:0≤x.agent∧x.agent≤most) (h2:0≤x.life∧x.life≤most) (h3:0≤x.count∧x.count≤most):∃ k',rdO l k 0=(x,k',0)∧At l k' r:=by
 have hmo:most≤18446744073709551615:=by decide
 unfold encO at h
 rw [us_split _ _ _ (by simp)] at h
 obtain ⟨k1,e1,h,i1⟩:=num_at h h1.1 h1.2 hmo
 rw [us_split _ _ _ (by simp)] at h
 obtain ⟨k2,e2,h,i2⟩:=num_at h h2.1 h2.2 hmo
 obtain ⟨k3,e3,h,i3⟩:=num_at h h3.1 h3.2 hmo
 exact ⟨k3,by simp only [rdO,e1,e2,e3,i1,i2,i3],h⟩
theorem rdL_cons {α:Type} (f:Nat→Nat→α × Nat × Nat) {k e k1 e1:Nat} {x:α} (h:f k e=(x,k1,e1)):∀ n,rdL f (n+1) k e=(x::(rdL f n k1 e1).1,(rdL f n k1 e1).2)
 | 0=>by simp only [rdL,h];rfl
 | n+1=>by
  rw [rdL,rdL_cons f h n]
  rw [rdL]
  rfl
theorem rdL_at {α:Type} {l:List UInt8} {f:Nat→Nat→α × Nat × Nat} {enc:α→List UInt8}:∀ {xs:List α} (_:∀ x∈xs,∀ k r,At l k (enc x++r)→∃ k',f k 0=(x,k',0)∧At l k' r) {k:Nat} {r:List UInt8},At l k (xs.flatMap enc++r)→∃ k',rdL f xs.length k 0=(xs,k',0)∧At l k' r
 | [],_,k,r,h=>⟨k,rfl,h⟩
 | x::xs,hf,k,r,h=>by
  rw [List.flatMap_cons,List.append_assoc] at h
  obtain ⟨k1,e1,h1⟩:=hf x List.mem_cons_self k _ h
  obtain ⟨k2,e2,h2⟩:=rdL_at (fun y hy=>hf y (List.mem_cons_of_mem _ hy)) h1
  exact ⟨k2,by rw [List.length_cons,rdL_cons f e1,e2],h2⟩
theorem rdM_at {l:List UInt8} {k:Nat} {m:Md} (h:At l k (us [m.gen,m.cut,m.fence,(m.E.length:Int)]++(m.E.flatMap encE++(us [(m.M.length:Int)]++(m.M.flatMap encK++(us [(m.O.length:Int)]++m.O.flatMap encO)))))) (hm:m.In):rdM l k 0=(m,l.length,0):=by
 have hmo:most≤18446744073709551615:=by decide
 rw [us_split _ _ _ (by simp)] at h
 obtain ⟨k1,e1,h,i1⟩:=num_at h hm.gen.1 hm.gen.2 hmo
 rw [us_split _ _ _ (by simp)] at h
 obtain ⟨k2,e2,h,i2⟩:=num_at h hm.cut.1 hm.cut.2 hmo
 rw [us_split _ _ _ (by simp)] at h
 obtain ⟨k3,e3,h,i3⟩:=num_at h hm.fence.1 hm.fence.2 hmo
 obtain ⟨k4,e4,h,_⟩:=num_at (mo:=256) h (by omega) (by have:=hm.le;omega) (by omega)
 obtain ⟨k5,e5,h⟩:=rdL_at (f:=rdE l) (fun x hx k r h=>rdE_at h (hm.E x hx)) h
 obtain ⟨k6,e6,h,_⟩:=num_at (mo:=64) h (by omega) (by have:=hm.lm;omega) (by omega)
 obtain ⟨k7,e7,h⟩:=rdL_at (f:=rdK l) (fun x hx k r h=>rdK_at h (hm.M x hx).1 (hm.M x hx).2) h
 obtain ⟨k8,e8,h,_⟩:=num_at (mo:=8) h (by omega) (by have:=hm.lo;omega) (by omega)
 rw [← List.append_nil (m.O.flatMap encO)] at h
 obtain ⟨k9,e9,h⟩:=rdL_at (f:=rdO l) (fun x hx k r h=>rdO_at h (hm.O x hx).1 (hm.O x hx).2.1 (hm.O x hx).2.2) h
 have hk:k9=l.length:=by
  have:=congrArg List.length h.2
  rw [List.length_drop] at this
  have h1:=h.1
  simp at this
  omega
 subst hk
 simp only [rdM,e1,e2,e3,e4,Int.toNat_natCast,e5,e6,e7,e8,e9,i1,i2,i3]
theorem decT_encT {m:Md} (hm:m.In) (hr:rightB m=true):decT (encT m)=(m,0):=by
 have h:At (encT m) 5 (us [m.gen,m.cut,m.fence,(m.E.length:Int)]++(m.E.flatMap encE++(us [(m.M.length:Int)]++(m.M.flatMap encK++(us [(m.O.length:Int)]++m.O.flatMap encO))))):=by
  refine ⟨by simp [encT,head5],rfl⟩
 have hb:Nu.curBytes (encT m) 0 0 5=(head5,5,0):=by
  have h1:=h.1
  unfold Nu.curBytes
  rw [if_neg (by omega),if_neg (by simp only [Int.natCast_zero];omega)]
  rfl
 unfold decT
 rw [hb]
 dsimp only
 rw [rdM_at h hm]
 dsimp only
 rw [if_pos ⟨rfl,Nu.curEnd_2 (by omega),hr⟩]
theorem copen_cseal (l:List UInt8):Cr.copen (Cr.cseal l)=(l,0):=by
 have e:(Cr.cseal l).length-4=l.length:=by simp [Cr.cseal,Cr.four]
 have e4:4≤(Cr.cseal l).length:=by simp [Cr.cseal,Cr.four]
 have et:(Cr.cseal l).take l.length=l:=by unfold Cr.cseal;rw [List.take_left]
 rw [Cr.copen_good e4 (by rw [e,et];unfold Cr.cseal;rw [List.drop_left]),e,et]
theorem decB_encB {m:Md} (hm:m.In) (hr:rightB m=true):decB (encB m)=(m,0):=by
 unfold decB encB
 rw [copen_cseal,if_neg (by simp),decT_encT hm hr]
def seqL (k:Int):List Mk→Int
 | []=>0
 | x::r=>if x.maker=k then x.seq else seqL k r
theorem seq_at {k:Int}:∀ {l:List Mk} {j:Nat},j<l.length→(∀ i,i<j→(gt l i).maker≠k)→(gt l j).maker=k→seqL k l=(gt l j).seq
 | [],j,hj,_,_=>absurd hj (by simp)
 | x::r,0,_,_,h=>if_pos h
 | x::r,j+1,hj,h1,h2=>by
  unfold seqL
  rw [if_neg (show ¬ x.maker=k from h1 0 (by omega)),seq_at (l:=r) (j:=j) (by simpa using hj) (fun i hi=>h1 (i+1) (by omega)) h2]
  rfl
theorem seq_none {k:Int}:∀ {l:List Mk},(∀ i,i<l.length→(gt l i).maker≠k)→seqL k l=0
 | [],_=>rfl
 | x::r,h=>by
  unfold seqL
  rw [if_neg (show ¬ x.maker=k from h 0 (by simp)),seq_none (l:=r) (fun i hi=>h (i+1) (by simpa using hi))]
def fi {α:Type} (p:α→Bool):List α→Nat
 | []=>0
 | x::r=>if p x=true then 0 else fi p r+1
theorem fi_at {α:Type} [Inhabited α] {p:α→Bool}:∀ {l:List α} {j:Nat},j<l.length→(∀ i,i<j→p (gt l i)=false)→p (gt l j)=true→fi p l=j
 | [],j,hj,_,_=>absurd hj (by simp)
 | x::r,0,_,_,h=>if_pos h
 | x::r,j+1,hj,h1,h2=>by
  unfold fi
  rw [if_neg (show ¬ p x=true from by rw [show p x=false from h1 0 (by omega)];decide),fi_at (l:=r) (j:=j) (by simpa using hj) (fun i hi=>h1 (i+1) (by omega)) h2]
theorem fi_none {α:Type} [Inhabited α] {p:α→Bool}:∀ {l:List α},(∀ i,i<l.length→p (gt l i)=false)→fi p l=l.length
 | [],_=>rfl
 | x::r,h=>by
  unfold fi
  rw [if_neg (show ¬ p x=true from by rw [show p x=false from h 0 (by simp)];decide),fi_none (l:=r) (fun i hi=>h (i+1) (by simpa using hi))]
  rfl
def ix {α:Type} (p:α→Bool) (l:List α):Int:=if fi p l=l.length then -1 else (fi p l:Int)
def keyIs (k:ByteArray) (x:En):Bool:=x.key.toList == k.toList
set_option maxRecDepth 100000 in
set_option maxHeartbeats 1600000 in
theorem mark_of (w:World) {B:Nat} {m:Md} {p:Pl} (h:Man w B m p) (hB:B≤w.heap.size) (k:Int):Calls Tryz.prog 101 #[mdV m p,.int .i64 k] w fun e w'=>e=.returned (.int .i64 (seqL k m.M))∧Below w.heap.size w w':=by
 have HB:=Jh ((Below.refl w.heap.size w).alloc (Nat.le_refl _) (.cells #[.int .i64 m.gen,.int .i64 m.cut,.int .i64 m.fence,.slice p.AE m.E.length p.cE,.slice p.AM m.M.length p.cM,.slice p.AO m.O.length p.cO] 53))
 have HR:=Jh h.rm
 have hle:=h.lm
 clear h
 obtain ⟨AE,cE,AM,cM,AO,cO⟩:=p
 dsimp only at *
 go_enter Tryz.func101,Tryz.ntmps101
 go_wp2
 go_loopw [10] (fun i wr=>∃ j:Nat,j≤m.M.length∧i=.int .i64 (j:Int)∧Hid (∀ i,i<j→(gt m.M i).maker≠k)∧Below w.heap.size w wr) (fun i _=>m.M.length-(intOf i).toNat)
 case atStart=>exact ⟨0,Nat.zero_le _,rfl,Jh fun i hi=>absurd hi (by omega),HB.out⟩
 case round =>
  obtain ⟨j,hj,rfl,hall,hbel⟩:=hrel
  by_cases hlt:j<m.M.length
  ·have hsz:=hbel.size
   have hr:=HR.out.below (hbel.mono hB)
   obtain ⟨b,off,rfl,hbB⟩:=row_addr hr (by omega)
   obtain ⟨p0,p1⟩:wr.cell? ⟨b,off+j*2,none⟩=some (.int .i64 (gt m.M j).maker)∧wr.cell? ⟨b,off+j*2+1,none⟩=some (.int .i64 (gt m.M j).seq):=⟨row_cell mcs_len hr hlt (j:=0) rfl,row_cell mcs_len hr hlt (j:=1) rfl⟩
   have HS:=Jh fun hh=>seq_at hlt hall.out hh
   have HN:Hid ((gt m.M j).maker≠k→∀ i,i<j+1→(gt m.M i).maker≠k):=Jh fun hh i hi=>by
    rcases Nat.lt_or_ge i j with h1|h1
    ·exact hall.out i h1
    ·obtain rfl:i=j:=by omega
     exact hh
   clear hr HR hall
   generalize gt m.M j=x at *
   have hbe:=hbel.trans (((Below.refl wr.heap.size wr).alloc (Nat.le_refl _) (.cells #[.int .i64 x.maker,.int .i64 x.seq] 90)).mono hsz)
   by_cases hx:x.maker=k
   ·have HV:=Jh (HS.out hx)
    have t0:(x.maker == k)=true:=eqt hx
    clear hx
    go_wp2
    go_ret
    exact ⟨by rw [HV.out];rfl,hbe⟩
   ·have HN2:=Jh (HN.out hx)
    have t0:(x.maker == k)=false:=eqf hx
    clear hx
    go_wp2
    go_roundw
    case rel=>exact ⟨j+1,by omega,by go_num,HN2,hbe⟩
    case measure=>simp [intOf];omega
  ·obtain rfl:j=m.M.length:=by omega
   have HV:=Jh (seq_none hall.out)
   go_wp2
   go_ret
   exact ⟨by rw [HV.out];rfl,hbel⟩
set_option maxRecDepth 100000 in
set_option maxHeartbeats 1600000 in
theorem seqR_of (w:World) {B:Nat} {m:Md} {p:Pl} (h:Man w B m p) (hB:B≤w.heap.size) (k:Int):Calls Tryz.prog 57 #[mdV m p,.int .i64 k] w fun e w'=>e=.returned (.int .i64 (seqL k m.M))∧Below w.heap.size w w':=by
 have HB:=Jh ((Below.refl w.heap.size w).alloc (Nat.le_refl _) (.cells #[.int .i64 m.gen,.int .i64 m.cut,.int .i64 m.fence,.slice p.AE m.E.length p.cE,.slice p.AM m.M.length p.cM,.slice p.AO m.O.length p.cO] 53))
 have HR:=Jh h.rm
 have hle:=h.lm
 clear h
 obtain ⟨AE,cE,AM,cM,AO,cO⟩:=p
 dsimp only at *
 go_enter Tryz.func57,Tryz.ntmps57
 go_wp2
 go_loopw [10] (fun i wr=>∃ j:Nat,j≤m.M.length∧i=.int .i64 (j:Int)∧Hid (∀ i,i<j→(gt m.M i).maker≠k)∧Below w.heap.size w wr) (fun i _=>m.M.length-(intOf i).toNat)
 case atStart=>exact ⟨0,Nat.zero_le _,rfl,Jh fun i hi=>absurd hi (by omega),HB.out⟩
 case round =>
  obtain ⟨j,hj,rfl,hall,hbel⟩:=hrel
  by_cases hlt:j<m.M.length
  ·have hsz:=hbel.size
   have hr:=HR.out.below (hbel.mono hB)
   obtain ⟨b,off,rfl,hbB⟩:=row_addr hr (by omega)
   obtain ⟨p0,p1⟩:wr.cell? ⟨b,off+j*2,none⟩=some (.int .i64 (gt m.M j).maker)∧wr.cell? ⟨b,off+j*2+1,none⟩=some (.int .i64 (gt m.M j).seq):=⟨row_cell mcs_len hr hlt (j:=0) rfl,row_cell mcs_len hr hlt (j:=1) rfl⟩
   have HS:=Jh fun hh=>seq_at hlt hall.out hh
   have HN:Hid ((gt m.M j).maker≠k→∀ i,i<j+1→(gt m.M i).maker≠k):=Jh fun hh i hi=>by
    rcases Nat.lt_or_ge i j with h1|h1
    ·exact hall.out i h1
    ·obtain rfl:i=j:=by omega
     exact hh
   clear hr HR hall
   generalize gt m.M j=x at *
   have hbe:=hbel.trans (((Below.refl wr.heap.size wr).alloc (Nat.le_refl _) (.cells #[.int .i64 x.maker,.int .i64 x.seq] 90)).mono hsz)
   by_cases hx:x.maker=k
   ·have HV:=Jh (HS.out hx)
    have t0:(x.maker == k)=true:=eqt hx
    clear hx
    go_wp2
    go_ret
    exact ⟨by rw [HV.out];rfl,hbe⟩
   ·have HN2:=Jh (HN.out hx)
    have t0:(x.maker == k)=false:=eqf hx
    clear hx
    go_wp2
    go_roundw
    case rel=>exact ⟨j+1,by omega,by go_num,HN2,hbe⟩
    case measure=>simp [intOf];omega
  ·obtain rfl:j=m.M.length:=by omega
   have HV:=Jh (seq_none hall.out)
   go_wp2
   go_ret
   exact ⟨by rw [HV.out];rfl,hbel⟩
theorem did_of (w:World) {B:Nat} {m:Md} {p:Pl} (h:Man w B m p) (hB:B≤w.heap.size) (y:Ow):Calls Tryz.prog 63 #[mdV m p,owV y] w fun e w'=>e=.returned (.bool (m.O.any (didB y)))∧Below w.heap.size w w':=by
 have HB:=Jh (((Below.refl w.heap.size w).alloc (Nat.le_refl _) (.cells #[.int .i64 m.gen,.int .i64 m.cut,.int .i64 m.fence,.slice p.AE m.E.length p.cE,.slice p.AM m.M.length p.cM,.slice p.AO m.O.length p.cO] 53)).alloc (by simp) (.cells #[.int .i64 y.agent,.int .i64 y.life,.int .i64 y.count] 26))
 have HA:Hid (Calls Tryz.prog 98 #[.slice p.AO m.O.length p.cO,.func (.func 99) #[] #[.pointer (some ⟨w.heap.size+1,0,none⟩)]] ((w.alloc (.cells #[.int .i64 m.gen,.int .i64 m.cut,.int .i64 m.fence,.slice p.AE m.E.length p.cE,.slice p.AM m.M.length p.cM,.slice p.AO m.O.length p.cO] 53)).alloc (.cells #[.int .i64 y.agent,.int .i64 y.life,.int .i64 y.count] 26)) fun e w'=>e=.returned (.bool (m.O.any (didB y)))∧Below w.heap.size ((w.alloc (.cells #[.int .i64 m.gen,.int .i64 m.cut,.int .i64 m.fence,.slice p.AE m.E.length p.cE,.slice p.AM m.M.length p.cM,.slice p.AO m.O.length p.cO] 53)).alloc (.cells #[.int .i64 y.agent,.int .i64 y.life,.int .i64 y.count] 26)) w'):=Jh (by
  refine (anyO_calls _ (p:=didB y) ⟨enters_of Tryz.func99 (by kernel_rfl) rfl,fun x _ W hW=>?_⟩ (h.ro.below (HB.out.mono hB)) (by simp;omega) h.lo).mono ?_
  ·have hb:=(Blk.new (w.alloc (.cells #[.int .i64 m.gen,.int .i64 m.cut,.int .i64 m.fence,.slice p.AE m.E.length p.cE,.slice p.AM m.M.length p.cM,.slice p.AO m.O.length p.cO] 53)) 26 #[.int .i64 y.agent,.int .i64 y.life,.int .i64 y.count]).below hW (by simp)
   rw [World.size_alloc] at hb
   exact did_calls x y W ⟨hb.cell 0,hb.cell 1,hb.cell 2⟩
  ·rintro e w' ⟨rfl,hb⟩
   exact ⟨rfl,hb.mono (by simp;omega)⟩)
 clear h
 go_enter Tryz.func63,Tryz.ntmps63
 go_wp2_with fail
 refine HA.out.mono ?_
 rintro e w1 ⟨rfl,hb1⟩
 go_wp2
 go_ret
 exact ⟨rfl,HB.out.trans hb1⟩
set_option maxRecDepth 100000 in
set_option maxHeartbeats 1600000 in
theorem findR_of (w:World) {B:Nat} {m:Md} {p:Pl} (h:Man w B m p) (hB:B≤w.heap.size) (k:ByteArray):Calls Tryz.prog 84 #[mdV m p,.string k] w fun e w'=>e=.returned (.int .i64 (ix (keyIs k) m.E))∧Below w.heap.size w w':=by
 have HB:=Jh ((Below.refl w.heap.size w).alloc (Nat.le_refl _) (.cells #[.int .i64 m.gen,.int .i64 m.cut,.int .i64 m.fence,.slice p.AE m.E.length p.cE,.slice p.AM m.M.length p.cM,.slice p.AO m.O.length p.cO] 53))
 have HR:=Jh h.re
 have hle:=h.le
 clear h
 obtain ⟨AE,cE,AM,cM,AO,cO⟩:=p
 dsimp only at *
 go_enter Tryz.func84,Tryz.ntmps84
 go_wp2
 go_loopw [10] (fun i wr=>∃ j:Nat,j≤m.E.length∧i=.int .i64 (j:Int)∧Hid (∀ i,i<j→keyIs k (gt m.E i)=false)∧Below w.heap.size w wr) (fun i _=>m.E.length-(intOf i).toNat)
 case atStart=>exact ⟨0,Nat.zero_le _,rfl,Jh fun i hi=>absurd hi (by omega),HB.out⟩
 case round =>
  obtain ⟨j,hj,rfl,hall,hbel⟩:=hrel
  by_cases hlt:j<m.E.length
  ·have hsz:=hbel.size
   have hr:=HR.out.below (hbel.mono hB)
   obtain ⟨b,off,rfl,hbB⟩:=row_addr hr (by omega)
   obtain ⟨p0,p1,p2,p3,p4,p5,p6,p7,p8⟩:wr.cell? ⟨b,off+j*9,none⟩=some (.string (gt m.E j).key)∧wr.cell? ⟨b,off+j*9+1,none⟩=some (.int .i64 (gt m.E j).window)∧wr.cell? ⟨b,off+j*9+2,none⟩=some (.string (gt m.E j).part)∧wr.cell? ⟨b,off+j*9+3,none⟩=some (.int .i64 (gt m.E j).first)∧wr.cell? ⟨b,off+j*9+4,none⟩=some (.int .i64 (gt m.E j).last)∧wr.cell? ⟨b,off+j*9+5,none⟩=some (.int .i64 (gt m.E j).rows)∧wr.cell? ⟨b,off+j*9+6,none⟩=some (.int .i64 (gt m.E j).size)∧wr.cell? ⟨b,off+j*9+7,none⟩=some (.int .u32 (gt m.E j).sum)∧wr.cell? ⟨b,off+j*9+8,none⟩=some (.int .i64 (gt m.E j).born):=⟨row_cell ecs_len hr hlt (j:=0) rfl,row_cell ecs_len hr hlt (j:=1) rfl,row_cell ecs_len hr hlt (j:=2) rfl,row_cell ecs_len hr hlt (j:=3) rfl,row_cell ecs_len hr hlt (j:=4) rfl,row_cell ecs_len hr hlt (j:=5) rfl,row_cell ecs_len hr hlt (j:=6) rfl,row_cell ecs_len hr hlt (j:=7) rfl,row_cell ecs_len hr hlt (j:=8) rfl⟩
   have HS:Hid (((gt m.E j).key.toList == k.toList)=true→ix (keyIs k) m.E=(j:Int)):=Jh fun hh=>by unfold ix;rw [fi_at hlt hall.out hh,if_neg (by omega)]
   have HN:Hid (((gt m.E j).key.toList == k.toList)=false→∀ i,i<j+1→keyIs k (gt m.E i)=false):=Jh fun hh=>any_step hall.out hh
   clear hr HR hall
   generalize gt m.E j=x at *
   have hbe:=hbel.trans (((Below.refl wr.heap.size wr).alloc (Nat.le_refl _) (.cells #[.string x.key,.int .i64 x.window,.string x.part,.int .i64 x.first,.int .i64 x.last,.int .i64 x.rows,.int .i64 x.size,.int .u32 x.sum,.int .i64 x.born] 85)).mono hsz)
   cases hx:(x.key.toList == k.toList)
   ·have HN2:=Jh (HN.out hx)
    go_wp2
    go_roundw
    case rel=>exact ⟨j+1,by omega,by go_num,HN2,hbe⟩
    case measure=>simp [intOf];omega
   ·have HV:=Jh (HS.out hx)
    go_wp2
    go_ret
    exact ⟨by rw [HV.out];rfl,hbe⟩
  ·obtain rfl:j=m.E.length:=by omega
   have HV:Hid (ix (keyIs k) m.E=-1):=Jh (by unfold ix;rw [fi_none hall.out,if_pos rfl])
   go_wp2
   go_ret
   exact ⟨by rw [HV.out];rfl,hbel⟩
structure Ed where
 add:List En
 drop:List ByteArray
 marks:List Mk
 cut:Int
 fence:Int
 by_:Ow
deriving Inhabited
structure Pd where
 AA:Option Addr
 cA:Nat
 AD:Option Addr
 cD:Nat
 AM:Option Addr
 cM:Nat
abbrev edV (d:Ed) (p:Pd):Value:=.agg #[.slice p.AA d.add.length p.cA,.slice p.AD d.drop.length p.cD,.slice p.AM d.marks.length p.cM,.int .i64 d.cut,.int .i64 d.fence,.int .i64 d.by_.agent,.int .i64 d.by_.life,.int .i64 d.by_.count]
structure Edi (w:World) (B:Nat) (d:Ed) (p:Pd):Prop where
 ra:Reads w B 9 p.AA d.add.length (d.add.flatMap En.cs)
 rd:Reads w B 1 p.AD d.drop.length (d.drop.map Value.string)
 rm:Reads w B 2 p.AM d.marks.length (d.marks.flatMap Mk.cs)
 la:d.add.length≤17592186044416
 ld:d.drop.length≤17592186044416
 lm:d.marks.length≤17592186044416
 ca:d.add.length≤p.cA
 cd:d.drop.length≤p.cD
 cm:d.marks.length≤p.cM
 ok:∀ x∈d.add,x.Ok
 okd:∀ k∈d.drop,k.size≤140737488351232
theorem Edi.below {w w':World} {B:Nat} {d:Ed} {p:Pd} (h:Edi w B d p) (hb:Below B w w'):Edi w' B d p:=⟨h.ra.below hb,h.rd.below hb,h.rm.below hb,h.la,h.ld,h.lm,h.ca,h.cd,h.cm,h.ok,h.okd⟩
theorem Edi.more {w:World} {B B':Nat} {d:Ed} {p:Pd} (h:Edi w B d p) (hB:B≤B'):Edi w B' d p:=⟨h.ra.more hB,h.rd.more hB,h.rm.more hB,h.la,h.ld,h.lm,h.ca,h.cd,h.cm,h.ok,h.okd⟩
def keys (l:List En):List ByteArray:=l.map (·.key)
theorem keys_len (l:List En):(keys l).length=l.length:=List.length_map _
theorem keys_gt {l:List En} {i:Nat} (h:i<l.length):gt (keys l) i=(gt l i).key:=by
 rw [← gt_eq (show i<(keys l).length by rw [keys_len];exact h),← gt_eq h]
 simp [keys]
noncomputable def editB (d:Ed):Bool:=d.add.all enB&&d.drop.all keyB&&decide (keys d.add).Nodup&&decide d.drop.Nodup&&risB mkB ltP d.marks&&numB d.cut 0&&numB d.fence 0&&owB d.by_
section
variable {β:Type}
theorem mdel_len1 {x:ByteArray}:∀ {l:List (ByteArray × β)},l.Pairwise (fun p q=>p.1≠q.1)→(∃ p∈l,p.1=x)→(mdel l x).length+1=l.length
 | [],_,h=>by obtain ⟨p,hp,_⟩:=h;cases hp
 | q::r,hn,h=>by
  rw [List.pairwise_cons] at hn
  unfold mdel
  rw [List.filter_cons]
  by_cases e:q.1=x
  ·rw [if_neg (by simpa using e)]
   have:r.filter (fun p=>decide (p.1≠x))=r:=List.filter_eq_self.2 fun p hp=>by
    have:=hn.1 p hp
    rw [e] at this
    simpa using fun h=>this h.symm
   rw [this];rfl
  ·rw [if_pos (by simpa using e),List.length_cons,List.length_cons]
   have:=mdel_len1 hn.2 (x:=x) (by
    obtain ⟨p,hp,hpx⟩:=h
    rcases List.mem_cons.1 hp with rfl|hp
    ·exact absurd hpx e
    ·exact ⟨p,hp,hpx⟩)
   unfold mdel at this
   omega
theorem mdel_none {x:ByteArray} {l:List (ByteArray × β)} (h:¬ ∃ p∈l,p.1=x):mdel l x=l:=List.filter_eq_self.2 fun p hp=>by simpa using fun e=>h ⟨p,hp,e⟩
theorem mput_lenp (lt:ByteArray→ByteArray→Bool) (l:List (ByteArray × β)) (x:ByteArray) (v:β):(mput lt l x v).length=(mdel l x).length+1:=(mins_perm (mdel l x)).length_eq
theorem mput_ne {lt:ByteArray→ByteArray→Bool} {l:List (ByteArray × β)} {x:ByteArray} {v:β} (h:l.Pairwise fun p q=>p.1≠q.1):(mput lt l x v).Pairwise fun p q=>p.1≠q.1:=by
 refine (mins_perm (mdel l x)).symm.pairwise ?_ (fun h=>h.symm)
 rw [List.pairwise_cons]
 exact ⟨fun q hq=>(mdel_ne q hq).symm,h.filter _⟩
structure Ks (M:List (ByteArray × β)) (ks:List ByteArray):Prop where
 nd:M.Pairwise fun p q=>p.1≠q.1
 mem:∀ x,(∃ p∈M,p.1=x)↔x∈ks
 le:M.length≤ks.length
 eq:M.length=ks.length↔ks.Nodup
theorem Ks.nil:Ks ([]:List (ByteArray × β)) []:=⟨List.Pairwise.nil,fun x=>by simp,Nat.le_refl _,by simp⟩
theorem Ks.step {lt:ByteArray→ByteArray→Bool} {M:List (ByteArray × β)} {ks:List ByteArray} (h:Ks M ks) (x:ByteArray) (v:β):Ks (mput lt M x v) (ks++[x]):=by
 refine ⟨mput_ne h.nd,fun y=>?_,?_,?_⟩
 ·rw [List.mem_append,List.mem_singleton,← h.mem]
  constructor
  ·rintro ⟨p,hp,rfl⟩
   rcases mput_mem.1 hp with rfl|⟨hp,_⟩
   ·exact .inr rfl
   ·exact .inl ⟨p,hp,rfl⟩
  ·rintro (⟨p,hp,rfl⟩|rfl)
   ·by_cases e:p.1=x
    ·exact ⟨(x,v),mput_mem.2 (.inl rfl),e.symm⟩
    ·exact ⟨p,mput_mem.2 (.inr ⟨hp,e⟩),rfl⟩
   ·exact ⟨(y,v),mput_mem.2 (.inl rfl),rfl⟩
 ·rw [mput_lenp,List.length_append,List.length_singleton]
  have:(mdel M x).length≤M.length:=List.length_filter_le _ _
  have:=h.le
  omega
 ·rw [mput_lenp,List.length_append,List.length_singleton,List.nodup_append]
  have h1:=h.le
  by_cases hx:∃ p∈M,p.1=x
  ·have h2:=mdel_len1 h.nd hx
   constructor
   ·intro e;omega
   ·intro e
    exact absurd rfl (e.2.2 x ((h.mem x).1 hx) x (by simp))
  ·rw [mdel_none hx]
   have h2:x∉ks:=fun hm=>hx ((h.mem x).2 hm)
   constructor
   ·intro e
    exact ⟨h.eq.1 (by omega),by simp,fun a ha b hb=>by rw [List.mem_singleton] at hb;rintro rfl;exact h2 (hb ▸ ha)⟩
   ·intro e
    have:=h.eq.2 e.1
    omega
end
end Go.Proofs.YtibnehaibgbliaaGreat.Mf
