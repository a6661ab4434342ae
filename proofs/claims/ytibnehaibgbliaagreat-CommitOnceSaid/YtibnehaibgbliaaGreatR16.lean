/- Laws for the row's walk. -/
import Derived.Test.YtibnehaibgbliaaGreatR15
set_option linter.unusedVariables false
set_option linter.unusedSimpArgs false
open Go.Lib renaming hid → Jh
open List renaming getElem?_toArray → Ja, getElem?_cons_zero → Jb, setIfInBounds_toArray → Jd, set_cons_zero → Je, set_cons_succ → Jf, getElem_cons_zero → Jg, getElem_cons_succ → Ji, getElem_toArray → Jk
namespace Go.Proofs.YtibnehaibgbliaaGreat.Mf
open Go.RowKit Go.Proofs.YtibnehaibgbliaaGreat
def Bx (w:World) (gb base:Nat) (l:List UInt8):Prop:=∃ A c,Blk w gb 33 #[.slice A l.length c]∧OwnB w base A c l
theorem Bx.below {w w':World} {gb base:Nat} {l:List UInt8} (h:Bx w gb base l) (hb:Below w.heap.size w w'):Bx w' gb base l:=by
 obtain ⟨A,c,h1,h2⟩:=h
 exact ⟨A,c,h1.below hb h1.lt,h2.below hb⟩
def RetPt (gb base:Nat) (w:World) (l:List UInt8) (e:Ending) (w':World):Prop:=e=.returned (.tuple #[])∧Bx w' gb base l∧Below base w w'∧KU (some gb) w w'
set_option maxRecDepth 100000 in
set_option maxHeartbeats 1600000 in
theorem put_calls (w:World) {base gb g c2:Nat} {l:List UInt8} {L:List Int} (hbx:Bx w gb base l) (hgb:base≤gb) (hL:Nums w g L) (h0:Fits L) (hl:l.length+10*L.length≤100000000) (hb:base≤w.heap.size) :
  Calls Tryz.prog 59 #[.slice (some ⟨g,0,none⟩) L.length c2,.pointer (some ⟨gb,0,none⟩)] w (RetPt gb base w (l++us L)):=by
 have H0:=Jh h0
 clear h0
 have hw0:Hid (Bx w gb base (l++us (L.take 0))):=Jh (by simpa [us] using hbx)
 have HE:=Jh (us_all L)
 have hgne:Hid (some g≠some gb):=Jh (by
  obtain ⟨A,c,h1,_⟩:=hbx
  obtain ⟨cs,h2,_⟩:=hL
  exact fun e=>h1.ne_ h2 (by decide) (by injection e with e;exact e.symm))
 clear hbx
 go_enter Tryz.func59,Tryz.ntmps59
 go_wp2
 go_loopw [7] (fun i wr=>∃ j:Nat,j≤L.length∧i=.int .i64 (j:Int)∧Hid (Bx wr gb base (l++us (L.take j)))∧Hid (Below base w wr)∧Hid (KU (some gb) w wr)) (fun i _=>L.length-(intOf i).toNat)
 case atStart=>exact ⟨0,Nat.zero_le _,rfl,hw0,Jh (Below.refl _ _),Jh (KU.refl _ _)⟩
 case round =>
  clear hw0
  obtain ⟨j,hj,rfl,HX,HB,HK⟩:=hrel
  by_cases hlt:j<L.length
  ·have cj:=(hL.keep HK.out hgne.out).cell hlt
   have hx0:=H0.out _ (gt_mem hlt)
   obtain ⟨x,hx⟩:∃ x:Nat,gt L j=(x:Int):=⟨(gt L j).toNat,by omega⟩
   have Hu:Hid (l++us (L.take (j+1))=(l++us (L.take j))++Nu.putU x):=Jh (by rw [us_take hlt hx,List.append_assoc])
   have Hr:=Jh (us_room j H0.out)
   rw [hx] at cj hx0
   clear hx
   have hpl:=Nu.putU_len10 (n:=x) (by omega)
   have hpp:=Nu.putU_pos x
   have HP:=fun W=>Nu.putU_calls x W hpl
   have hwx:IntKind.u64.wrap (x:Int)=(x:Int):=by rw [IntKind.wrap_u64];omega
   have Hsz:Hid ((l++us (L.take j)).length+(Nu.putU x).length≤100000100):=Jh (by rw [List.length_append];have:=Hr.out;omega)
   generalize l++us (L.take j)=pre at *
   obtain ⟨A,c,hbk,hob⟩:=HX.out
   have HBk:=Jh hbk
   have HOb:=Jh hob
   have hc0:wr.cell? ⟨gb,0,none⟩=some (.slice A pre.length c):=hbk.cell 0
   have hgl:=hbk.lt
   have hszr:base≤wr.heap.size:=Nat.le_trans hb HB.out.size
   clear hbk hob HX
   go_wp2_with fail
   have HW0:Hid (Below wr.heap.size wr wr.drew):=Jh (below_drewN_ (Below.refl _ _) 1)
   refine wp_region_T 5 (fun w'=>w'.cell? ⟨gb,0,none⟩=some (.slice A pre.length c)) (by kernel_rfl) hc0 (fun hHeld=>?_)
   generalize wr.drew=wd at *
   apply tkT 0
   apply tkT 1
   apply tkT 2
   refine wpAnyT_one (i:=3) (by kernel_rfl) rfl (fun K hK=>?_);go_simp
   refine (HP wd).mono ?_
   rintro e w1 he
   obtain ⟨A1,c1,rfl,hc1,hm1,hb1,hbel1,hown1⟩:=he.opened
   have hb01:Below wr.heap.size wr w1:=HW0.out.trans (hbel1.mono HW0.out.size)
   have hh1:=(HBk.out.below hb01 hgl).cell 0
   refine hK.out _ _ (fun _=>hh1) ?_
   clear hK K hHeld
   have HB1:=Jh hb01
   have HO1:=Jh (HOb.out.below hb01)
   clear he hown1 hbel1 HP
   (try simp only [Act.put,Jk,Jg,Ji,Jd,Je,Jf])
   refine wpAnyT_one (i:=4) (by kernel_rfl) rfl (fun K hK=>?_)
   refine step_append_B _ rfl (.tmp 11) (.tmp 14) _ rfl base Tryz.underlying33 Nu.Tryz.infoU8 rfl HO1.out rfl hb1 hpp Hsz.out (Nat.le_trans hszr HB1.out.size) ?_
   intro A2 c2 w2 hown2 hbel2 hku2
   have hbk2:Blk w2 gb 33 #[.slice A pre.length c]:=hku2.blk (HBk.out.below hb01 hgl) (by decide) (by simp)
   have hh2:=hbk2.cell 0
   refine hK.out _ _ (fun _=>hh2) ?_
   clear hK K
   have hf2:=hbk2.frozen 0
   have HBx:Hid (Bx (w2.setCell ⟨gb,0,none⟩ (.slice A2 (pre++Nu.putU x).length c2)) gb base (pre++Nu.putU x)):=Jh ⟨A2,c2,hbk2.set_ 0 _,OwnB.set (.inl hown2) hbk2 (by decide) 0 _⟩
   have HBl:Hid (Below base w (w2.setCell ⟨gb,0,none⟩ (.slice A2 (pre++Nu.putU x).length c2))):=Jh (((HB.out.trans (hb01.mono hszr)).trans hbel2).setCell hgb _)
   have HKl:Hid (KU (some gb) w (w2.setCell ⟨gb,0,none⟩ (.slice A2 (pre++Nu.putU x).length c2))):=Jh (((HK.out.trans (KU.below hb01)).trans hku2.low).set rfl 0 _)
   rw [← Hu.out] at HBx HBl HKl ⊢
   generalize hnx:l++us (L.take (j+1))=nx at *
   have Hnx:=Jh hnx
   clear hnx Hu
   clear hown2 hbel2 hku2 hbk2 hb1 hb01 HB1 HO1 HBk HOb HB HK
   (try simp only [Act.put,Jk,Jg,Ji,Jd,Je,Jf])
   refine wpAnyT_one (i:=5) (by kernel_rfl) rfl (fun K hK=>?_);go_simp
   refine hK.out _ _ (fun h=>absurd rfl h) (wpAnyT_done (by kernel_rfl) ?_ _)
   clear hK K
   go_wp2
   go_roundw
   case rel=>exact ⟨j+1,by omega,by go_num,by rw [Hnx.out];exact HBx,HBl,HKl⟩
   case measure=>simp [intOf];omega
  obtain rfl:j=L.length:=by omega
  rw [HE.out] at HX
  go_wp2
  go_end0
  exact ⟨rfl,HX.out,HB.out,HK.out⟩
abbrev putF (gb:Nat):Value:=.func (.func 59) #[] #[.pointer (some ⟨gb,0,none⟩)]
set_option maxRecDepth 100000 in
set_option maxHeartbeats 1600000 in
theorem text_calls (w:World) {base gb gp:Nat} {l:List UInt8} {s:ByteArray} (hbx:Bx w gb base l) (hp:Blk w gp 128 #[putF gb]) (hgb:base≤gb) (hl:l.length+s.size≤90000000) (hb:base≤w.heap.size) :
  Calls Tryz.prog 61 #[.string s,.pointer (some ⟨gp,0,none⟩),.pointer (some ⟨gb,0,none⟩)] w (RetPt gb base w ((l++us [(s.size:Int)])++s.data.toList)):=by
 have hc:w.cell? ⟨gp,0,none⟩=some (.func (.func 59) #[] #[.pointer (some ⟨gb,0,none⟩)]):=hp.cell 0
 have HP:=Jh fun W (hW:Below w.heap.size w W) (hN:Nums W w.heap.size [(s.size:Int)])=>put_calls W (c2:=1) (hbx.below hW) hgb hN (fits_cons (by omega) (by omega) fits_nil) (by simp only [List.length_cons,List.length_nil];omega) (Nat.le_trans hb hW.size)
 have HL:=us_lenR (L:=[(s.size:Int)]) (fits_cons (by omega) (by omega) fits_nil) (pre:=l) (Nat.le_refl _)
 have HL2:=Jh HL
 generalize hq:(l++us [(s.size:Int)])++s.data.toList=q at *
 have Hq:=Jh hq
 clear HL hbx hq
 go_enter Tryz.func61,Tryz.ntmps61
 go_wp2_with fail
 have hbd:=(Below.refl w.heap.size w).alloc (Nat.le_refl _) (.cells #[.int .i64 (s.size:Int)] 3)
 refine (HP.out _ hbd (nums_built w rfl)).mono ?_
 rintro e w2 ⟨rfl,hbx2,hbel2,hku2⟩
 have hb2:Below base w w2:=(hbd.mono hb).trans hbel2
 have hk2:KU (some gb) w w2:=(KU.below hbd).trans hku2
 have hs2:base≤w2.heap.size:=Nat.le_trans hb hb2.size
 obtain ⟨A,c,hbk,hob⟩:=hbx2
 have hl2:=HL2.out
 generalize hpre:l++us [(s.size:Int)]=pre at *
 have hc2:=hbk.cell 0
 have hgl:=hbk.lt
 have HBk:=Jh hbk
 have HOb:=Jh hob
 clear hbk hob hpre HP hbel2 hku2 hbd
 simp only [Ja,Jb] at hc2
 go_wp2_with (at_builtin;go_must (refine wpList_append_str _ rfl (.tmp 9) (.tmp 10) _ _ rfl base Tryz.underlying33 Tryz.underlying9 Nu.Tryz.infoU8 rfl HOb.out rfl (by simp only [List.length_cons,List.length_nil] at hl2;omega) hs2 ?_))
 intro A3 c3 w3 hown3 hbel3 hku3
 have hbk3:Blk w3 gb 33 #[.slice A pre.length c]:=hku3.blk HBk.out (by decide) (by simp)
 have hc3:=hbk3.cell 0
 have hf3:=hbk3.frozen 0
 have hlq:pre.length+s.size=q.length:=by rw [← Hq.out];simp
 rw [Hq.out] at hown3
 rw [hlq]
 have HBx:Hid (Bx (w3.setCell ⟨gb,0,none⟩ (.slice A3 q.length c3)) gb base q):=Jh ⟨A3,c3,hbk3.set_ 0 _,OwnB.set hown3 hbk3 (by decide) 0 _⟩
 have HBl:Hid (Below base w (w3.setCell ⟨gb,0,none⟩ (.slice A3 q.length c3))):=Jh ((hb2.trans hbel3).setCell hgb _)
 have HKl:Hid (KU (some gb) w (w3.setCell ⟨gb,0,none⟩ (.slice A3 q.length c3))):=Jh ((hk2.trans hku3.low).set rfl 0 _)
 clear hown3 hbel3 hku3 hbk3 HBk HOb hb2 hk2 HL2 Hq
 go_wp2
 go_end0
 exact ⟨rfl,HBx.out,HBl.out,HKl.out⟩
theorem parB_len {s:ByteArray} (h:parB s=true):s.size≤1024:=by
 obtain ⟨l,h1,h2⟩:∃ l,Lb.ParP s.data.toList l:=by unfold parB at h;simpa using h
 have h3:s.data.toList.length=s.size:=rfl
 have hl:=Lb.textK_len h1 l.length (Nat.le_refl _)
 have h4:l.length≤4:=(of_decide_eq_true h1).1
 rw [← h2] at h3
 unfold Lb.textB at h3
 simp only [List.length_cons,List.length_append,List.length_nil] at h3
 omega
theorem enB_f {x:En} (h:enB x=true) (hk:x.Ok):x.In:=by
 unfold enB keyB numB at h
 simp only [Bool.and_eq_true,decide_eq_true_eq] at h
 obtain ⟨⟨⟨⟨⟨⟨⟨⟨⟨⟨h1,h2⟩,h3⟩,h4⟩,h5⟩,h6⟩,h7⟩,h8⟩,h9⟩,h10⟩,h11⟩:=h
 have hp:=parB_len h1
 have hk2:=h2.2.1
 exact ⟨hk2,hp,⟨h3.1,by unfold most;omega⟩,⟨h4,by unfold most;omega⟩,⟨by omega,by unfold most;omega⟩,⟨by omega,by unfold most;omega⟩,⟨by omega,by unfold most;omega⟩,hk.sum,⟨h11.1,by unfold most;omega⟩⟩
theorem right_in {m:Md} (h:rightB m=true) (hk:∀ x∈m.E,x.Ok):m.In:=by
 have hF:=right_f h
 have hM:=srt_len (l:=m.M) (a:=1) (b:=64) hF.srtM (fun x hx=>(mk_in (hF.mkM x hx)).1) (by omega)
 have hO:=srt_len (l:=m.O) (a:=1) (b:=8) hF.srtO (fun x hx=>(ow_in (hF.owO x hx)).1) (by omega)
 refine ⟨⟨hF.gen.1,by have:=hF.gen;unfold most;omega⟩,⟨hF.cut.1,by have:=hF.cut;unfold most;omega⟩,⟨hF.fence.1,by have:=hF.fence;unfold most;omega⟩,hF.lenE,by omega,by omega,fun x hx=>enB_f (hF.enE x hx) (hk x hx),fun x hx=>?_,fun x hx=>?_⟩
 ·have h1:=hF.mkM x hx
  unfold mkB numB at h1
  simp only [Bool.and_eq_true,decide_eq_true_eq] at h1
  unfold most
  omega
 ·have h1:=hF.owO x hx
  unfold owB numB at h1
  simp only [Bool.and_eq_true,decide_eq_true_eq] at h1
  unfold most
  omega
theorem ent_bytes2 (pre:List UInt8) (x:En):(((((pre++us [(x.key.size:Int)])++x.key.data.toList)++us [x.window])++us [(x.part.size:Int)])++x.part.data.toList)++us [x.first,x.last,x.rows,x.size,x.sum,x.born]=pre++encE x:=by
 unfold encE
 rw [us_split x.window [(x.part.size:Int)] _ (by simp)]
 simp only [List.append_assoc]
noncomputable def encD (m:Md):List UInt8:=if rightB m=true then encB m else []
noncomputable def encEr (m:Md):Int:=if rightB m=true then 0 else 4
def RetEnc (w:World) (m:Md) (e:Ending) (w':World):Prop:=∃ A c,e=.returned (.tuple #[.slice A (encD m).length c,.int .i64 (encEr m)])∧w'.ownsRow w.heap.size 5 1 (.slice A (encD m).length c) (encD m).length ((encD m).map byteV)∧Below w.heap.size w w'
theorem store_new {P:Program} (W:World) {v z:Value} (hv:v.oneCell'=true) {t:TypeId} {n:Nat} (hn:n=W.heap.size):(store ⟨n,0,none⟩ v).run P (W.alloc (.cells #[z] t))=.ok () (W.alloc (.cells #[v] t)):=by
 have hb:Blk (W.alloc (.cells #[z] t)) n t #[z]:=by rw [hn];exact Blk.new _ _ _
 subst hn
 rw [run_store _ _ _ _ _ hv,hb.cell 0,hb.frozen 0,World.setCell_alloc_new]
 rfl
theorem head_bx (w1:World) {base:Nat} (hb:base≤w1.heap.size) (v:Value):Bx (((w1.alloc (.cells #[.int .u8 77,.int .u8 65,.int .u8 78,.int .u8 73,.int .u8 1] 5 (5,6))).alloc (.cells #[.slice (some ⟨w1.heap.size,0,none⟩) 5 5] 33)).alloc (.cells #[v] 128)) (w1.heap.size+1) base head5:=by
 have h1:=(head_own w1 hb (fr:=(5,6))).below ((Below.refl _ _).alloc (Nat.le_refl _) (.cells #[.slice (some ⟨w1.heap.size,0,none⟩) 5 5] 33))
 have h2:=Blk.new (w1.alloc (.cells #[.int .u8 77,.int .u8 65,.int .u8 78,.int .u8 73,.int .u8 1] 5 (5,6))) 33 #[.slice (some ⟨w1.heap.size,0,none⟩) 5 5]
 rw [World.size_alloc] at h2
 exact Bx.below ⟨_,_,h2,h1⟩ ((Below.refl _ _).alloc (Nat.le_refl _) _)
set_option maxRecDepth 100000 in
set_option maxHeartbeats 12800000 in
theorem enc_calls (w:World) {B:Nat} {m:Md} {p:Pl} (h:Man w B m p) (hB:B≤w.heap.size) (hs:Short m.E) (hm:Sh w) :
  Calls Tryz.prog 30 #[mdV m p] w (RetEnc w m):=by
 have HRt:=Jh (right_calls (w.alloc (.cells #[.int .i64 m.gen,.int .i64 m.cut,.int .i64 m.fence,.slice p.AE m.E.length p.cE,.slice p.AM m.M.length p.cM,.slice p.AO m.O.length p.cO] 53)) (h.below ((Below.refl B w).alloc hB _)) (Nat.le_trans hB (by simp)) hs (hm.below ((Below.refl w.heap.size w).alloc (Nat.le_refl _) _) hm.lt))
 have kc:=fun (W:World)=>Joins.run_convert_bytes_const_at (P:=Tryz.prog) W 33 5 #[.int .u8 77,.int .u8 65,.int .u8 78,.int .u8 73,.int .u8 1] 5 5 W.heap.size rfl Tryz.underlying33 Tryz.underlying5
 have HR:=Jh fun W (hW:Below w.heap.size w W)=>h.below (hW.mono hB)
 have hok:=h.ok
 have hlE:=h.le
 have HLM:=Jh h.lm
 have HLO:=Jh h.lo
 have hb1:=(Below.refl w.heap.size w).alloc (Nat.le_refl _) (.cells #[.int .i64 m.gen,.int .i64 m.cut,.int .i64 m.fence,.slice p.AE m.E.length p.cE,.slice p.AM m.M.length p.cM,.slice p.AO m.O.length p.cO] 53)
 have HBk:=Jh (Blk.new w 53 #[.int .i64 m.gen,.int .i64 m.cut,.int .i64 m.fence,.slice p.AE m.E.length p.cE,.slice p.AM m.M.length p.cM,.slice p.AO m.O.length p.cO])
 clear h hs hm
 obtain ⟨AE,cE,AM,cM,AO,cO⟩:=p
 dsimp only at *
 cases hr:rightB m
 ·rw [hr] at HRt
  go_enter Tryz.func30,Tryz.ntmps30
  go_wp2_with fail
  refine HRt.out.mono ?_
  rintro e w2 ⟨rfl,hb2⟩
  have hbl:=hb1.trans (hb2.mono (by simp))
  have HF:Hid (RetEnc w m (.returned (.tuple #[.slice none 0 0,.int .i64 4])) w2):=Jh ⟨none,0,by simp [encD,encEr,hr],by simp only [encD,hr];exact World.ownsRow_nil _ _ _ _,hbl⟩
  clear hb2 hbl kc hr HRt HBk hok
  go_wp2
  go_ret2
  exact HF.out
 have HIn:=Jh (right_in hr hok)
 have HD:Hid (encD m=encB m∧encEr m=0):=Jh ⟨by unfold encD;rw [if_pos hr],by unfold encEr;rw [if_pos hr]⟩
 rw [hr] at HRt
 clear hr hok
 go_enter Tryz.func30,Tryz.ntmps30
 go_wp2_with fail
 refine HRt.out.mono ?_
 rintro e w2 ⟨rfl,hb2⟩
 have hbw2:Below w.heap.size w w2:=hb1.trans (hb2.mono (by simp))
 have HBk2:=Jh (HBk.out.below hb2 (by simp))
 have hsz2:w.heap.size<w2.heap.size:=by have:=hb2.size;simp at this;omega
 have HBx0:=Jh (head_bx w2 (base:=w.heap.size) (by omega) (putF (w2.heap.size+1)))
 have HC:Hid (∀ W,KU (some (w2.heap.size+1)) (((w2.alloc (.cells #[.int .u8 77,.int .u8 65,.int .u8 78,.int .u8 73,.int .u8 1] 5 (5,6))).alloc (.cells #[.slice (some ⟨w2.heap.size,0,none⟩) 5 5] 33)).alloc (.cells #[putF (w2.heap.size+1)] 128)) W→(W.cell? ⟨w.heap.size,0,none⟩=some (.int .i64 m.gen)∧W.cell? ⟨w.heap.size,1,none⟩=some (.int .i64 m.cut)∧W.cell? ⟨w.heap.size,2,none⟩=some (.int .i64 m.fence)∧W.cell? ⟨w.heap.size,3,none⟩=some (.slice AE m.E.length cE)∧W.cell? ⟨w.heap.size,4,none⟩=some (.slice AM m.M.length cM)∧W.cell? ⟨w.heap.size,5,none⟩=some (.slice AO m.O.length cO))∧Blk W (w2.heap.size+1+1) 128 #[putF (w2.heap.size+1)]):=Jh fun W hW=>by
  have h1:=hW.blk (((HBk2.out.alloc _).alloc _).alloc _) (by decide) (by intro e;injection e with e;omega)
  have h2:=Blk.new ((w2.alloc (.cells #[.int .u8 77,.int .u8 65,.int .u8 78,.int .u8 73,.int .u8 1] 5 (5,6))).alloc (.cells #[.slice (some ⟨w2.heap.size,0,none⟩) 5 5] 33)) 128 #[putF (w2.heap.size+1)]
  simp only [World.size_alloc] at h2
  have h3:=hW.blk h2 (by decide) (by intro e;injection e with e;omega)
  exact ⟨⟨h1.cell 0,h1.cell 1,h1.cell 2,h1.cell 3,h1.cell 4,h1.cell 5⟩,h3⟩
 have hbw3:Below w.heap.size w (((w2.alloc (.cells #[.int .u8 77,.int .u8 65,.int .u8 78,.int .u8 73,.int .u8 1] 5 (5,6))).alloc (.cells #[.slice (some ⟨w2.heap.size,0,none⟩) 5 5] 33)).alloc (.cells #[putF (w2.heap.size+1)] 128)):=((hbw2.alloc (by omega) _).alloc (by simp;omega) _).alloc (by simp;omega) _
 have kc2:=kc w2
 have hst:=store_new (P:=Tryz.prog) ((w2.alloc (.cells #[.int .u8 77,.int .u8 65,.int .u8 78,.int .u8 73,.int .u8 1] 5 (5,6))).alloc (.cells #[.slice (some ⟨w2.heap.size,0,none⟩) 5 5] 33)) (v:=putF (w2.heap.size+1)) (z:=.nilFunc) rfl (t:=128) (n:=w2.heap.size+1+1) (by simp)
 obtain ⟨⟨y0,y1,y2,y3,y4,y5⟩,hp0⟩:=HC.out _ (KU.refl _ _)
 have hy:w2.cell? ⟨w.heap.size,0,none⟩=some (.int .i64 m.gen)∧w2.cell? ⟨w.heap.size,1,none⟩=some (.int .i64 m.cut)∧w2.cell? ⟨w.heap.size,2,none⟩=some (.int .i64 m.fence)∧w2.cell? ⟨w.heap.size,3,none⟩=some (.slice AE m.E.length cE)∧w2.cell? ⟨w.heap.size,4,none⟩=some (.slice AM m.M.length cM)∧w2.cell? ⟨w.heap.size,5,none⟩=some (.slice AO m.O.length cO):=⟨HBk2.out.cell 0,HBk2.out.cell 1,HBk2.out.cell 2,HBk2.out.cell 3,HBk2.out.cell 4,HBk2.out.cell 5⟩
 obtain ⟨z0,z1,z2,z3,z4,z5⟩:=hy
 clear kc HRt hb1 HBk hb2 hp0
 go_wp2_with fail
 clear kc2 hst z0 z1 z2 z3 z4 z5 y0 y1 y2 y3 y4 y5
 have HB0:=Jh hbw3
 have hsz3:(((w2.alloc (.cells #[.int .u8 77,.int .u8 65,.int .u8 78,.int .u8 73,.int .u8 1] 5 (5,6))).alloc (.cells #[.slice (some ⟨w2.heap.size,0,none⟩) 5 5] 33)).alloc (.cells #[putF (w2.heap.size+1)] 128)).heap.size=w2.heap.size+1+1+1:=by simp
 have hbd:=(Below.refl (w2.heap.size+1+1+1) (((w2.alloc (.cells #[.int .u8 77,.int .u8 65,.int .u8 78,.int .u8 73,.int .u8 1] 5 (5,6))).alloc (.cells #[.slice (some ⟨w2.heap.size,0,none⟩) 5 5] 33)).alloc (.cells #[putF (w2.heap.size+1)] 128))).alloc (Nat.le_of_eq hsz3.symm) (.cells #[.int .i64 m.gen,.int .i64 m.cut,.int .i64 m.fence,.int .i64 (m.E.length:Int)] 3)
 generalize (((w2.alloc (.cells #[.int .u8 77,.int .u8 65,.int .u8 78,.int .u8 73,.int .u8 1] 5 (5,6))).alloc (.cells #[.slice (some ⟨w2.heap.size,0,none⟩) 5 5] 33)).alloc (.cells #[putF (w2.heap.size+1)] 128))=w3 at *
 rw [← hsz3] at hbd ⊢
 have hgbw:w.heap.size≤w2.heap.size+1:=by omega
 generalize hgb:w2.heap.size+1=gb at *
 refine (put_calls _ (base:=w.heap.size) (l:=head5) (L:=[m.gen,m.cut,m.fence,(m.E.length:Int)]) (HBx0.out.below hbd) hgbw (nums_built w3 rfl) HIn.out.f4 (by show 5+10*4≤_;omega) (by have:=hbd.size;omega)).mono ?_
 rintro e W2 ⟨rfl,hbx2,hbel2,hku2⟩
 rw [← preE_0] at hbx2
 have Hst:Hid (Bx W2 gb w.heap.size (preE m 0))∧Hid (Below w.heap.size w W2)∧Hid (KU (some gb) w3 W2):=⟨Jh hbx2,Jh ((HB0.out.trans (hbd.mono (by omega))).trans hbel2),Jh ((KU.below hbd).trans hku2)⟩
 clear hbx2 hbel2 hku2 hbd HB0 HBx0
 obtain ⟨⟨y0,y1,y2,y3,y4,y5⟩,-⟩:=HC.out _ Hst.2.2.out
 go_wp2
 clear y0 y1 y2 y3 y4 y5
 go_loopw [35] (fun i wr=>∃ j:Nat,j≤m.E.length∧i=.int .i64 (j:Int)∧Hid (Bx wr gb w.heap.size (preE m j))∧Hid (Below w.heap.size w wr)∧Hid (KU (some gb) w3 wr)) (fun i _=>m.E.length-(intOf i).toNat)
 case atStart=>exact ⟨0,Nat.zero_le _,rfl,Hst.1,Hst.2.1,Hst.2.2⟩
 case round =>
  clear Hst
  obtain ⟨j,hj,rfl,HX,HB,HK⟩:=hrel
  by_cases hlt:j<m.E.length
  ·have hr:=(HR.out wr HB.out).re
   obtain ⟨b,off,rfl,hbB⟩:=row_addr hr (by omega)
   obtain ⟨p0,p1,p2,p3,p4,p5,p6,p7,p8⟩:wr.cell? ⟨b,off+j*9,none⟩=some (.string (gt m.E j).key)∧wr.cell? ⟨b,off+j*9+1,none⟩=some (.int .i64 (gt m.E j).window)∧wr.cell? ⟨b,off+j*9+2,none⟩=some (.string (gt m.E j).part)∧wr.cell? ⟨b,off+j*9+3,none⟩=some (.int .i64 (gt m.E j).first)∧wr.cell? ⟨b,off+j*9+4,none⟩=some (.int .i64 (gt m.E j).last)∧wr.cell? ⟨b,off+j*9+5,none⟩=some (.int .i64 (gt m.E j).rows)∧wr.cell? ⟨b,off+j*9+6,none⟩=some (.int .i64 (gt m.E j).size)∧wr.cell? ⟨b,off+j*9+7,none⟩=some (.int .u32 (gt m.E j).sum)∧wr.cell? ⟨b,off+j*9+8,none⟩=some (.int .i64 (gt m.E j).born):=⟨row_cell ecs_len hr hlt (j:=0) rfl,row_cell ecs_len hr hlt (j:=1) rfl,row_cell ecs_len hr hlt (j:=2) rfl,row_cell ecs_len hr hlt (j:=3) rfl,row_cell ecs_len hr hlt (j:=4) rfl,row_cell ecs_len hr hlt (j:=5) rfl,row_cell ecs_len hr hlt (j:=6) rfl,row_cell ecs_len hr hlt (j:=7) rfl,row_cell ecs_len hr hlt (j:=8) rfl⟩
   have HXn:=Jh (HIn.out.E _ (gt_mem hlt))
   have HS:Hid (preE m (j+1)=preE m j++encE (gt m.E j)):=Jh (preE_s hlt)
   have HL:=Jh (preE_len HIn.out j)
   have hszr:w.heap.size≤wr.heap.size:=HB.out.size
   have hgb3:some wr.heap.size≠some gb:=by
    obtain ⟨A,c,hk,_⟩:=HX.out
    have:=hk.lt
    intro e;injection e with e;omega
   have HBk:=Jh (Blk.new wr 85 #[.string (gt m.E j).key,.int .i64 (gt m.E j).window,.string (gt m.E j).part,.int .i64 (gt m.E j).first,.int .i64 (gt m.E j).last,.int .i64 (gt m.E j).rows,.int .i64 (gt m.E j).size,.int .u32 (gt m.E j).sum,.int .i64 (gt m.E j).born])
   have hbW:=(Below.refl wr.heap.size wr).alloc (Nat.le_refl _) (.cells #[.string (gt m.E j).key,.int .i64 (gt m.E j).window,.string (gt m.E j).part,.int .i64 (gt m.E j).first,.int .i64 (gt m.E j).last,.int .i64 (gt m.E j).rows,.int .i64 (gt m.E j).size,.int .u32 (gt m.E j).sum,.int .i64 (gt m.E j).born] 85)
   have HX0:=Jh (HX.out.below hbW)
   have HB0:=Jh (HB.out.trans (hbW.mono hszr))
   have HK1:Hid (∀ W,KU (some gb) (wr.alloc (.cells #[.string (gt m.E j).key,.int .i64 (gt m.E j).window,.string (gt m.E j).part,.int .i64 (gt m.E j).first,.int .i64 (gt m.E j).last,.int .i64 (gt m.E j).rows,.int .i64 (gt m.E j).size,.int .u32 (gt m.E j).sum,.int .i64 (gt m.E j).born] 85)) W→KU (some gb) w3 W):=Jh fun W hW=>(HK.out.trans (KU.below hbW)).trans hW
   have HE:Hid (∀ W,KU (some gb) (wr.alloc (.cells #[.string (gt m.E j).key,.int .i64 (gt m.E j).window,.string (gt m.E j).part,.int .i64 (gt m.E j).first,.int .i64 (gt m.E j).last,.int .i64 (gt m.E j).rows,.int .i64 (gt m.E j).size,.int .u32 (gt m.E j).sum,.int .i64 (gt m.E j).born] 85)) W→W.cell? ⟨wr.heap.size,0,none⟩=some (.string (gt m.E j).key)∧W.cell? ⟨wr.heap.size,1,none⟩=some (.int .i64 (gt m.E j).window)∧W.cell? ⟨wr.heap.size,2,none⟩=some (.string (gt m.E j).part)∧W.cell? ⟨wr.heap.size,3,none⟩=some (.int .i64 (gt m.E j).first)∧W.cell? ⟨wr.heap.size,4,none⟩=some (.int .i64 (gt m.E j).last)∧W.cell? ⟨wr.heap.size,5,none⟩=some (.int .i64 (gt m.E j).rows)∧W.cell? ⟨wr.heap.size,6,none⟩=some (.int .i64 (gt m.E j).size)∧W.cell? ⟨wr.heap.size,7,none⟩=some (.int .u32 (gt m.E j).sum)∧W.cell? ⟨wr.heap.size,8,none⟩=some (.int .i64 (gt m.E j).born)):=Jh fun W hW=>by
    have h1:=hW.blk HBk.out (by decide) hgb3
    exact ⟨h1.cell 0,h1.cell 1,h1.cell 2,h1.cell 3,h1.cell 4,h1.cell 5,h1.cell 6,h1.cell 7,h1.cell 8⟩
   have hsW0:w.heap.size≤(wr.alloc (.cells #[.string (gt m.E j).key,.int .i64 (gt m.E j).window,.string (gt m.E j).part,.int .i64 (gt m.E j).first,.int .i64 (gt m.E j).last,.int .i64 (gt m.E j).rows,.int .i64 (gt m.E j).size,.int .u32 (gt m.E j).sum,.int .i64 (gt m.E j).born] 85)).heap.size:=by simp;omega
   clear hr hbB HX HB HK hbW HBk
   generalize gt m.E j=x at *
   generalize preE m j=pre at *
   go_wp2_with fail
   clear p0 p1 p2 p3 p4 p5 p6 p7 p8
   generalize wr.alloc (.cells #[.string x.key,.int .i64 x.window,.string x.part,.int .i64 x.first,.int .i64 x.last,.int .i64 x.rows,.int .i64 x.size,.int .u32 x.sum,.int .i64 x.born] 85)=wb at *
   have HK0:=Jh (KU.refl (some gb) wb)
   have hk1:=HXn.out.key
   have hk2:=HXn.out.part
   refine (text_calls wb (base:=w.heap.size) (s:=x.key) HX0.out (HC.out _ (HK1.out _ HK0.out)).2 (by omega) (by have:=HL.out;have:=hk1;omega) (by omega)).mono ?_
   rintro e wc ⟨rfl,hbx2,hbel2,hku2⟩
   have HBa:=Jh (HB0.out.trans hbel2)
   have HKa:=Jh (HK0.out.trans hku2)
   have HXa:=Jh hbx2
   have hsa:w.heap.size≤wc.heap.size:=HBa.out.size
   have HLa:=Jh (Nat.le_trans (str_lenR (s:=x.key) (us_lenR (L:=[(x.key.size:Int)]) HXn.out.f1 HL.out)) (Nat.add_le_add_left hk1 _))
   clear hbx2 hbel2 hku2 HX0 HB0 HK0 HL
   simp only [List.length_cons,List.length_nil] at HLa
   obtain ⟨q0,q1,q2,q3,q4,q5,q6,q7,q8⟩:=HE.out _ HKa.out
   have hcp:wc.cell? ⟨gb+1,0,none⟩=some (.func (.func 59) #[] #[.pointer (some ⟨gb,0,none⟩)]):=(HC.out _ (HK1.out _ HKa.out)).2.cell 0
   go_wp2_with fail
   clear q0 q1 q2 q3 q4 q5 q6 q7 q8 hcp
   have hbd:=(Below.refl wc.heap.size wc).alloc (Nat.le_refl _) (.cells #[.int .i64 x.window] 3)
   refine (put_calls _ (base:=w.heap.size) (L:=[x.window]) (HXa.out.below hbd) (by omega) (nums_built wc rfl) (HXn.out.f2a) (by have:=HLa.out;simp only [List.length_cons,List.length_nil];omega) (by simp;omega)).mono ?_
   rintro e wd ⟨rfl,hbx2,hbel2,hku2⟩
   have HBb:=Jh ((HBa.out.trans (hbd.mono (by omega))).trans hbel2)
   have HKb:=Jh (HKa.out.trans ((KU.below hbd).trans hku2))
   have HXb:=Jh hbx2
   have hsb:w.heap.size≤wd.heap.size:=HBb.out.size
   have HLb:=Jh (us_lenR HXn.out.f2a HLa.out)
   clear hbd hbx2 hbel2 hku2 HXa HBa HKa HLa
   simp only [List.length_cons,List.length_nil] at HLb
   obtain ⟨q0,q1,q2,q3,q4,q5,q6,q7,q8⟩:=HE.out _ HKb.out
   have hcp:wd.cell? ⟨gb+1,0,none⟩=some (.func (.func 59) #[] #[.pointer (some ⟨gb,0,none⟩)]):=(HC.out _ (HK1.out _ HKb.out)).2.cell 0
   go_wp2_with fail
   clear q0 q1 q2 q3 q4 q5 q6 q7 q8 hcp
   refine (text_calls wd (base:=w.heap.size) (s:=x.part) HXb.out (HC.out _ (HK1.out _ HKb.out)).2 (by omega) (by have:=HLb.out;have:=hk2;omega) (by omega)).mono ?_
   rintro e we ⟨rfl,hbx2,hbel2,hku2⟩
   have HBc:=Jh (HBb.out.trans hbel2)
   have HKc:=Jh (HKb.out.trans hku2)
   have HXc:=Jh hbx2
   have hsc:w.heap.size≤we.heap.size:=HBc.out.size
   have HLc:=Jh (Nat.le_trans (str_lenR (s:=x.part) (us_lenR (L:=[(x.part.size:Int)]) HXn.out.f2b HLb.out)) (Nat.add_le_add_left hk2 _))
   clear hbx2 hbel2 hku2 HXb HBb HKb HLb
   simp only [List.length_cons,List.length_nil] at HLc
   have hsum:IntKind.i64.wrap x.sum=x.sum:=wrap_i64 HXn.out.sum.1 HXn.out.sum.2
   obtain ⟨q0,q1,q2,q3,q4,q5,q6,q7,q8⟩:=HE.out _ HKc.out
   have hcp:we.cell? ⟨gb+1,0,none⟩=some (.func (.func 59) #[] #[.pointer (some ⟨gb,0,none⟩)]):=(HC.out _ (HK1.out _ HKc.out)).2.cell 0
   go_wp2_with fail
   clear q0 q1 q2 q3 q4 q5 q6 q7 q8 hcp
   have hbd:=(Below.refl we.heap.size we).alloc (Nat.le_refl _) (.cells #[.int .i64 x.first,.int .i64 x.last,.int .i64 x.rows,.int .i64 x.size,.int .i64 x.sum,.int .i64 x.born] 3)
   refine (put_calls _ (base:=w.heap.size) (L:=[x.first,x.last,x.rows,x.size,x.sum,x.born]) (HXc.out.below hbd) (by omega) (nums_built we rfl) (HXn.out.f6) (by have:=HLc.out;simp only [List.length_cons,List.length_nil];omega) (by simp;omega)).mono ?_
   rintro e wf ⟨rfl,hbx2,hbel2,hku2⟩
   have HBd:=Jh ((HBc.out.trans (hbd.mono (by omega))).trans hbel2)
   have HKd:=Jh (HKc.out.trans ((KU.below hbd).trans hku2))
   have HXd:=Jh hbx2
   have hsd:w.heap.size≤wf.heap.size:=HBd.out.size
   have HLd:=Jh (us_lenR HXn.out.f6 HLc.out)
   clear hbd hbx2 hbel2 hku2 HXc HBc HKc HLc
   simp only [List.length_cons,List.length_nil] at HLd
   have HXe:Hid (Bx wf gb w.heap.size (preE m (j+1))):=Jh (by rw [HS.out,← ent_bytes2];exact HXd.out)
   have HKe:=Jh (HK1.out _ HKd.out)
   clear HXd HKd HS HK1 HE HXn hk1 hk2 hsum HLd hsa hsb hsc hsd hsW0 hgb3
   go_wp2
   go_roundw
   case rel=>exact ⟨j+1,by omega,by go_num,HXe,HBd,HKe⟩
   case measure=>simp [intOf];omega
  obtain rfl:j=m.E.length:=by omega
  have HL:=Jh (preE_len HIn.out m.E.length)
  have hszr:w.heap.size≤wr.heap.size:=HB.out.size
  have hlen:m.M.length≤17592186044416:=HLM.out
  obtain ⟨⟨y0,y1,y2,y3,y4,y5⟩,hcp⟩:=HC.out _ HK.out
  have hcp:wr.cell? ⟨gb+1,0,none⟩=some (.func (.func 59) #[] #[.pointer (some ⟨gb,0,none⟩)]):=hcp.cell 0
  go_wp2_with fail
  clear y0 y1 y2 y3 y4 y5 hcp
  have hbd:=(Below.refl wr.heap.size wr).alloc (Nat.le_refl _) (.cells #[.int .i64 (m.M.length:Int)] 3)
  refine (put_calls _ (base:=w.heap.size) (L:=[(m.M.length:Int)]) (HX.out.below hbd) hgbw (nums_built wr rfl) HIn.out.fm (by have:=HL.out;simp only [List.length_cons,List.length_nil];omega) (by simp;omega)).mono ?_
  rintro e W2 ⟨rfl,hbx2,hbel2,hku2⟩
  rw [← preM_0] at hbx2
  have Hst:Hid (Bx W2 gb w.heap.size (preM m 0))∧Hid (Below w.heap.size w W2)∧Hid (KU (some gb) w3 W2):=⟨Jh hbx2,Jh ((HB.out.trans (hbd.mono hszr)).trans hbel2),Jh (HK.out.trans ((KU.below hbd).trans hku2))⟩
  clear hbx2 hbel2 hku2 hbd HX HB HK HL hszr
  obtain ⟨⟨y0,y1,y2,y3,y4,y5⟩,-⟩:=HC.out _ Hst.2.2.out
  go_wp2
  clear y0 y1 y2 y3 y4 y5
  go_loopw [78] (fun i wr=>∃ j:Nat,j≤m.M.length∧i=.int .i64 (j:Int)∧Hid (Bx wr gb w.heap.size (preM m j))∧Hid (Below w.heap.size w wr)∧Hid (KU (some gb) w3 wr)) (fun i _=>m.M.length-(intOf i).toNat)
  case atStart=>exact ⟨0,Nat.zero_le _,rfl,Hst.1,Hst.2.1,Hst.2.2⟩
  case round =>
   clear Hst
   obtain ⟨j,hj,rfl,HX,HB,HK⟩:=hrel
   by_cases hlt:j<m.M.length
   ·have hr:=(HR.out wr HB.out).rm
    obtain ⟨b,off,rfl,hbB⟩:=row_addr hr (by omega)
    obtain ⟨p0,p1⟩:wr.cell? ⟨b,off+j*2,none⟩=some (.int .i64 (gt m.M j).maker)∧wr.cell? ⟨b,off+j*2+1,none⟩=some (.int .i64 (gt m.M j).seq):=⟨row_cell mcs_len hr hlt (j:=0) rfl,row_cell mcs_len hr hlt (j:=1) rfl⟩
    have HF:=Jh (HIn.out.fK (gt_mem hlt))
    have HS:Hid (preM m (j+1)=_):=Jh (preM_s hlt)
    have HL:=Jh (preM_len HIn.out j)
    have hszr:w.heap.size≤wr.heap.size:=HB.out.size
    have hcp:wr.cell? ⟨gb+1,0,none⟩=some (.func (.func 59) #[] #[.pointer (some ⟨gb,0,none⟩)]):=(HC.out _ HK.out).2.cell 0
    have hgl:gb+1<wr.heap.size:=(HC.out _ HK.out).2.lt
    generalize gt m.M j=x at *
    go_wp2_with fail
    have hbd:=((Below.refl wr.heap.size wr).alloc (Nat.le_refl _) (.cells #[.int .i64 x.maker,.int .i64 x.seq] 90)).alloc (show wr.heap.size≤(wr.alloc (.cells #[.int .i64 x.maker,.int .i64 x.seq] 90)).heap.size by simp) (.cells #[.int .i64 x.maker,.int .i64 x.seq] 3)
    refine (put_calls _ (base:=w.heap.size) (L:=[x.maker,x.seq]) (HX.out.below hbd) hgbw (nums_built1 (wr.alloc (.cells #[.int .i64 x.maker,.int .i64 x.seq] 90)) (by simp) rfl) HF.out (by have:=HL.out;simp only [List.length_cons,List.length_nil];omega) (by simp;omega)).mono ?_
    rintro e W2 ⟨rfl,hbx2,hbel2,hku2⟩
    rw [← HS.out] at hbx2
    have HX2:=Jh hbx2
    have HB2:=Jh ((HB.out.trans (hbd.mono hszr)).trans hbel2)
    have HK2:=Jh (HK.out.trans ((KU.below hbd).trans hku2))
    clear hbx2 hbel2 hku2 hbd HX HB HK HL HF HS hcp hgl
    go_wp2
    go_roundw
    case rel=>exact ⟨j+1,by omega,by go_num,HX2,HB2,HK2⟩
    case measure=>simp [intOf];omega
   obtain rfl:j=m.M.length:=by omega
   have HL:=Jh (preM_len HIn.out m.M.length)
   have hszr:w.heap.size≤wr.heap.size:=HB.out.size
   have hlen:m.O.length≤17592186044416:=HLO.out
   obtain ⟨⟨y0,y1,y2,y3,y4,y5⟩,hcp⟩:=HC.out _ HK.out
   have hcp:wr.cell? ⟨gb+1,0,none⟩=some (.func (.func 59) #[] #[.pointer (some ⟨gb,0,none⟩)]):=hcp.cell 0
   go_wp2_with fail
   clear y0 y1 y2 y3 y4 y5 hcp
   have hbd:=(Below.refl wr.heap.size wr).alloc (Nat.le_refl _) (.cells #[.int .i64 (m.O.length:Int)] 3)
   refine (put_calls _ (base:=w.heap.size) (L:=[(m.O.length:Int)]) (HX.out.below hbd) hgbw (nums_built wr rfl) HIn.out.fo (by have:=HL.out;simp only [List.length_cons,List.length_nil];omega) (by simp;omega)).mono ?_
   rintro e W2 ⟨rfl,hbx2,hbel2,hku2⟩
   rw [← preO_0] at hbx2
   have Hst:Hid (Bx W2 gb w.heap.size (preO m 0))∧Hid (Below w.heap.size w W2)∧Hid (KU (some gb) w3 W2):=⟨Jh hbx2,Jh ((HB.out.trans (hbd.mono hszr)).trans hbel2),Jh (HK.out.trans ((KU.below hbd).trans hku2))⟩
   clear hbx2 hbel2 hku2 hbd HX HB HK HL hszr
   obtain ⟨⟨y0,y1,y2,y3,y4,y5⟩,-⟩:=HC.out _ Hst.2.2.out
   go_wp2
   clear y0 y1 y2 y3 y4 y5
   go_loopw [99] (fun i wr=>∃ j:Nat,j≤m.O.length∧i=.int .i64 (j:Int)∧Hid (Bx wr gb w.heap.size (preO m j))∧Hid (Below w.heap.size w wr)∧Hid (KU (some gb) w3 wr)) (fun i _=>m.O.length-(intOf i).toNat)
   case atStart=>exact ⟨0,Nat.zero_le _,rfl,Hst.1,Hst.2.1,Hst.2.2⟩
   case round =>
    clear Hst
    obtain ⟨j,hj,rfl,HX,HB,HK⟩:=hrel
    by_cases hlt:j<m.O.length
    ·have hr:=(HR.out wr HB.out).ro
     obtain ⟨b,off,rfl,hbB⟩:=row_addr hr (by omega)
     obtain ⟨p0,p1,p2⟩:wr.cell? ⟨b,off+j*3,none⟩=some (.int .i64 (gt m.O j).agent)∧wr.cell? ⟨b,off+j*3+1,none⟩=some (.int .i64 (gt m.O j).life)∧wr.cell? ⟨b,off+j*3+2,none⟩=some (.int .i64 (gt m.O j).count):=⟨row_cell ocs_len hr hlt (j:=0) rfl,row_cell ocs_len hr hlt (j:=1) rfl,row_cell ocs_len hr hlt (j:=2) rfl⟩
     have HF:=Jh (HIn.out.fO (gt_mem hlt))
     have HS:Hid (preO m (j+1)=_):=Jh (preO_s hlt)
     have HL:=Jh (preO_len HIn.out j)
     have hszr:w.heap.size≤wr.heap.size:=HB.out.size
     have hcp:wr.cell? ⟨gb+1,0,none⟩=some (.func (.func 59) #[] #[.pointer (some ⟨gb,0,none⟩)]):=(HC.out _ HK.out).2.cell 0
     have hgl:gb+1<wr.heap.size:=(HC.out _ HK.out).2.lt
     generalize gt m.O j=x at *
     go_wp2_with fail
     have hbd:=((Below.refl wr.heap.size wr).alloc (Nat.le_refl _) (.cells #[.int .i64 x.agent,.int .i64 x.life,.int .i64 x.count] 26)).alloc (show wr.heap.size≤(wr.alloc (.cells #[.int .i64 x.agent,.int .i64 x.life,.int .i64 x.count] 26)).heap.size by simp) (.cells #[.int .i64 x.agent,.int .i64 x.life,.int .i64 x.count] 3)
     refine (put_calls _ (base:=w.heap.size) (L:=[x.agent,x.life,x.count]) (HX.out.below hbd) hgbw (nums_built1 (wr.alloc (.cells #[.int .i64 x.agent,.int .i64 x.life,.int .i64 x.count] 26)) (by simp) rfl) HF.out (by have:=HL.out;simp only [List.length_cons,List.length_nil];omega) (by simp;omega)).mono ?_
     rintro e W2 ⟨rfl,hbx2,hbel2,hku2⟩
     rw [← HS.out] at hbx2
     have HX2:=Jh hbx2
     have HB2:=Jh ((HB.out.trans (hbd.mono hszr)).trans hbel2)
     have HK2:=Jh (HK.out.trans ((KU.below hbd).trans hku2))
     clear hbx2 hbel2 hku2 hbd HX HB HK HL HF HS hcp hgl
     go_wp2
     go_roundw
     case rel=>exact ⟨j+1,by omega,by go_num,HX2,HB2,HK2⟩
     case measure=>simp [intOf];omega
    obtain rfl:j=m.O.length:=by omega
    have hszr:w.heap.size≤wr.heap.size:=HB.out.size
    have HL:=Jh (preO_len HIn.out m.O.length)
    obtain ⟨A,c,hbk,hob⟩:=HX.out
    have hc0:wr.cell? ⟨gb,0,none⟩=some (.slice A (preO m m.O.length).length c):=hbk.cell 0
    have hby:=hob.bytes
    have hcap:=hob.cap
    have hbm:Hid (encB m=Cr.cseal (encT m)):=Jh rfl
    rw [preO_all] at HL hby hc0 hcap
    clear hbk hob HX HK HC HIn HR
    generalize encT m=T at *
    go_wp2_with fail
    refine (Cr.seal_calls wr hby (Nat.le_refl _) hcap (by have:=HL.out;omega) (by have:=HL.out;omega)).mono ?_
    rintro e W7 hret
    obtain ⟨A7,c7,rfl,_,_,_,hbel7,hown7⟩:=hret.opened
    have hown8:=own_base hown7 hszr
    have hbel8:=HB.out.trans (hbel7.mono hszr)
    rw [← hbm.out,← HD.out.1] at hown8
    rw [← hbm.out,← HD.out.1]
    have HF:Hid (∀ v,v=Value.tuple #[.slice A7 (encD m).length c7,.int .i64 0]→RetEnc w m (.returned v) W7):=Jh fun v hv=>⟨A7,c7,by rw [hv,HD.out.2],hown8,hbel8⟩
    clear hown7 hbel7 hret hby hcap hc0 HB HL hbm HD hown8 hbel8
    go_wp2
    go_ret2
    exact HF.out _ (by kernel_rfl)
abbrev dmA (s:Cst) (q:Pd) (pr pn:Pl):Array Value :=
 #[.slice q.AA s.d.add.length q.cA,.slice q.AD s.d.drop.length q.cD,.slice q.AM s.d.marks.length q.cM,.int .i64 s.d.cut,.int .i64 s.d.fence,.int .i64 s.d.by_.agent,.int .i64 s.d.by_.life,.int .i64 s.d.by_.count,.int .i64 s.tries,.int .i64 s.wait,.bool s.writes,.bool s.asked,.int .i64 (s.fails:Int),.int .i64 s.due,.int .i64 s.ver,.int .i64 s.read.gen,.int .i64 s.read.cut,.int .i64 s.read.fence,.slice pr.AE s.read.E.length pr.cE,.slice pr.AM s.read.M.length pr.cM,.slice pr.AO s.read.O.length pr.cO,.int .i64 s.next.gen,.int .i64 s.next.cut,.int .i64 s.next.fence,.slice pn.AE s.next.E.length pn.cE,.slice pn.AM s.next.M.length pn.cM,.slice pn.AO s.next.O.length pn.cO,.int .i64 s.st,.int .i64 s.er]
structure DmAt (w:World) (base g:Nat) (s:Cst) (q:Pd) (pr pn:Pl):Prop where
 low:base≤g
 blk:Blk w g 63 (dmA s q pr pn)
 ed:Edo w base s.d q
 rd:Mow w base s.read pr
 nx:Mow w base s.next pn
section
variable {w w':World} {base g:Nat} {s:Cst} {q:Pd} {pr pn:Pl}
end
section
variable {base g:Nat} {s:Cst} {q:Pd} {pr pn:Pl}
end
end Go.Proofs.YtibnehaibgbliaaGreat.Mf
