/- Laws for the row's walk. -/
import Derived.Test.YtibnehaibgbliaaGreatR28
set_option linter.unusedVariables false
set_option linter.unusedSimpArgs false
open Go.Lib renaming hid → Jh
open List renaming getElem?_toArray → Ja, getElem?_cons_zero → Jb, getElem?_cons_succ → Jc, setIfInBounds_toArray → Jd, set_cons_zero → Je, set_cons_succ → Jf, getElem_cons_zero → Jg, getElem_cons_succ → Ji, getElem_toArray → Jk
namespace Go.Proofs.YtibnehaibgbliaaGreat.lawCommitOnce
open Go.RowKit Go.Proofs.YtibnehaibgbliaaGreat Go.Proofs.YtibnehaibgbliaaGreat.Mf
structure Fr (w W:World) (gx:Nat) (x:Ed) (q:Pd):Prop where
 below:Below w.heap.size w W
 box:Blk W gx 28 #[.slice q.AA x.add.length q.cA,.slice q.AD x.drop.length q.cD,.slice q.AM x.marks.length q.cM,.int .i64 x.cut,.int .i64 x.fence,.int .i64 x.by_.agent,.int .i64 x.by_.life,.int .i64 x.by_.count]
section
variable {w W W':World} {gx:Nat} {x:Ed} {q:Pd}
theorem Fr.on (h:Fr w W gx x q) (hb:Below W.heap.size W W'):Fr w W' gx x q:=⟨h.below.trans (hb.mono h.below.size),h.box.below hb h.box.lt⟩
theorem Fr.only (h:Fr w W gx x q) {g:Nat} {cs:Array Value} (ho:Only g W W') (hk:Blk W g 92 cs) (hg:w.heap.size≤g):Fr w W' gx x q :=
 ⟨h.below.trans (ho.below hg h.below.size),ho.blk h.box (h.box.ne_ hk (by decide))⟩
theorem Fr.other (h:Fr w W gx x q) {g:Nat} {t:TypeId} {cs:Array Value} (ho:Only g W W') (hk:Blk W g t cs) (ht:28≠t) (hg:w.heap.size≤g):Fr w W' gx x q :=
 ⟨h.below.trans (ho.below hg h.below.size),ho.blk h.box (h.box.ne_ hk ht)⟩
theorem Oth.cut' {W:World} {B c:Nat} {A:Option Addr}:∀ {l:List Ot},Oth W B A c l→0<l.length→Oth W B (cut9 A c) (c-1) (l.drop 1)
 | [],_,h=>absurd h (by simp)
 | _::_,h,_=>h.cut
theorem Fr.kt (h:Fr w W gx x q) (hk:KT W W') {b:Nat} (hb:Below b W W') (hg:w.heap.size≤b):Fr w W' gx x q:=⟨h.below.trans (hb.mono hg),hk.blk_ h.box (by decide) (by decide)⟩
end
set_option maxRecDepth 100000 in
set_option maxHeartbeats 25600000 in
theorem body (w:World) {B:Nat} {x:Ed} {q:Pd} (hE:Edi w B x q) {A:Option Addr} {c:Nat} {l:List Ot} (hL:Oth w B A c l) (hB:B≤w.heap.size) (tries wait:Int) (hm:Sh w) :
  Calls Tryz.prog 5 #[edV x q,.int .i64 tries,.int .i64 wait,.slice A l.length c] w fun e w'=>e=.returned (.bool true)∧Below w.heap.size w w':=by
 have HE:=Jh fun W (hW:Below w.heap.size w W)=>hE.below (hW.mono hB)
 have HL:=Jh fun W (hW:Below w.heap.size w W)=>hL.below (hW.mono hB)
 have HSh:=Jh fun W (hW:Below w.heap.size w W)=>hm.below hW hm.lt
 have HBw:=Jh hB
 clear hE hL hm hB
 have HF1:Hid (Fr w (w.alloc (.cells #[.slice q.AA x.add.length q.cA,.slice q.AD x.drop.length q.cD,.slice q.AM x.marks.length q.cM,.int .i64 x.cut,.int .i64 x.fence,.int .i64 x.by_.agent,.int .i64 x.by_.life,.int .i64 x.by_.count] 28)) w.heap.size x q):=Jh ⟨(Below.refl _ _).alloc (Nat.le_refl _) _,Blk.new _ _ _⟩
 go_enter Tryz.func5,Tryz.ntmps5
 go_wp2_with fail
 obtain ⟨gx,hgx⟩:∃ gx,gx=w.heap.size:=⟨_,rfl⟩
 rw [← hgx] at HF1 ⊢
 clear hgx
 generalize w.alloc (.cells #[.slice q.AA x.add.length q.cA,.slice q.AD x.drop.length q.cD,.slice q.AM x.marks.length q.cM,.int .i64 x.cut,.int .i64 x.fence,.int .i64 x.by_.agent,.int .i64 x.by_.life,.int .i64 x.by_.count] 28)=w1 at *
 refine (clives_calls _).mono ?_
 rintro e w2 ⟨rfl,hb2⟩
 have HF2:=Jh (HF1.out.on hb2)
 clear hb2 HF1
 have a0:=HF2.out.box.cell 0
 have a1:=HF2.out.box.cell 1
 have a2:=HF2.out.box.cell 2
 have a3:=HF2.out.box.cell 3
 have a4:=HF2.out.box.cell 4
 have a5:=HF2.out.box.cell 5
 have a6:=HF2.out.box.cell 6
 have a7:=HF2.out.box.cell 7
 simp only [Ja,Jb,Jc] at a0 a1 a2 a3 a4 a5 a6 a7
 go_wp2_with fail
 refine (cfew_calls w2 (HE.out w2 HF2.out.below) (Nat.le_trans HBw.out HF2.out.below.size)).mono ?_
 rintro e w3 ⟨f2,rfl,hf2,hb3⟩
 have HF3:=Jh (HF2.out.on hb3)
 have HB3:=Jh HF3.out.below
 clear hb3 HF2
 clear a0 a1 a2 a3 a4 a5 a6 a7
 cases f2
 ·clear hf2
  go_wp2_with fail
  refine (clives_calls _).mono ?_
  rintro e w9 ⟨rfl,hb9⟩
  have HB9:=Jh (HB3.out.trans (hb9.mono HB3.out.size))
  clear hb9
  go_wp2
  go_ret
  exact ⟨rfl,HB9.out⟩
 have HGe:=Jh (hf2 rfl)
 clear hf2
 by_cases h60:60<l.length
 ·have t1:decide ((60:Int)<(l.length:Int))=true:=dct (by omega)
  clear h60
  go_wp2_with fail
  refine (clives_calls _).mono ?_
  rintro e w9 ⟨rfl,hb9⟩
  have HB9:=Jh (HB3.out.trans (hb9.mono HB3.out.size))
  clear hb9
  go_wp2
  go_ret
  exact ⟨rfl,HB9.out⟩
 have t1:decide ((60:Int)<(l.length:Int))=false:=dcf (by omega)
 have H60:Hid (l.length≤60):=Jh (by omega)
 clear h60
 by_cases hw3:3<wait
 ·have t2:decide ((3:Int)<wait)=true:=dct hw3
  clear hw3
  go_wp2_with fail
  refine (clives_calls _).mono ?_
  rintro e w9 ⟨rfl,hb9⟩
  have HB9:=Jh (HB3.out.trans (hb9.mono HB3.out.size))
  clear hb9
  go_wp2
  go_ret
  exact ⟨rfl,HB9.out⟩
 have t2:decide ((3:Int)<wait)=false:=dcf hw3
 have HW3:Hid (wait≤3):=Jh (by omega)
 clear hw3 HB3
 go_wp2
 clear t1 t2
 go_loopw [45] (fun vi wr=>∃ i:Nat,i≤l.length∧vi=.int .i64 (i:Int)∧Hid (∀ k,k<i→Ge (gt l k).e)∧Hid (Fr w wr gx x q)) (fun vi _=>l.length-(intOf vi).toNat)
 case atStart=>exact ⟨0,Nat.zero_le _,rfl,Jh fun k hk=>absurd hk (Nat.not_lt_zero k),HF3⟩
 case round =>
  clear HF3
  obtain ⟨i,hi,rfl,HG,HF⟩:=hrel
  by_cases hlt:i<l.length
  ·have hrd:=(HL.out wr HF.out.below).rd
   obtain ⟨b,off,hA,hbB,hcell⟩:=row_at ots_len hrd (by omega)
   have hci:=hcell i hlt
   have p0:=hci 0 _ rfl
   have p1:=hci 1 _ rfl
   have p2:=hci 2 _ rfl
   have p3:=hci 3 _ rfl
   have p4:=hci 4 _ rfl
   have p5:=hci 5 _ rfl
   have p6:=hci 6 _ rfl
   have p7:=hci 7 _ rfl
   have p8:=hci 8 _ rfl
   rw [Nat.add_zero] at p0
   clear hcell hci hrd
   have HEi:=Jh ((HL.out wr HF.out.below).ok _ (gt_mem hlt))
   have HGN:Hid (Ge (gt l i).e→∀ k,k<i+1→Ge (gt l k).e):=Jh fun h k hk=>by
    by_cases e:k=i
    ·rw [e];exact h
    ·exact HG.out k (by omega)
   generalize gt l i=o at *
   rw [hA]
   have i0:(0:Int)≤(i:Int):=by omega
   have i9:(i:Int)<(l.length:Int):=by omega
   have hbo:=(Below.refl wr.heap.size wr).alloc (Nat.le_refl _) (.cells #[.slice o.q.AA o.e.add.length o.q.cA,.slice o.q.AD o.e.drop.length o.q.cD,.slice o.q.AM o.e.marks.length o.q.cM,.int .i64 o.e.cut,.int .i64 o.e.fence,.int .i64 o.e.by_.agent,.int .i64 o.e.by_.life,.int .i64 o.e.by_.count,.int .i64 o.fate] 67)
   have HO:=Jh (Blk.new wr 67 #[.slice o.q.AA o.e.add.length o.q.cA,.slice o.q.AD o.e.drop.length o.q.cD,.slice o.q.AM o.e.marks.length o.q.cM,.int .i64 o.e.cut,.int .i64 o.e.fence,.int .i64 o.e.by_.agent,.int .i64 o.e.by_.life,.int .i64 o.e.by_.count,.int .i64 o.fate])
   have HF4:=Jh (HF.out.on hbo)
   have HEo:=Jh (HEi.out.below (hbo.mono (Nat.le_trans HBw.out HF.out.below.size)))
   clear hbo HF HEi HG
   go_upto_region 6 with fail
   clear p0 p1 p2 p3 p4 p5 p6 p7 p8
   obtain ⟨go,hgo⟩:∃ go,go=wr.heap.size:=⟨_,rfl⟩
   rw [← hgo] at HO ⊢
   clear hgo
   generalize wr.alloc (.cells #[.slice o.q.AA o.e.add.length o.q.cA,.slice o.q.AD o.e.drop.length o.q.cD,.slice o.q.AM o.e.marks.length o.q.cM,.int .i64 o.e.cut,.int .i64 o.e.fence,.int .i64 o.e.by_.agent,.int .i64 o.e.by_.life,.int .i64 o.e.by_.count,.int .i64 o.fate] 67)=w4 at *
   have a0:=HO.out.cell 0
   have a1:=HO.out.cell 1
   have a2:=HO.out.cell 2
   have a3:=HO.out.cell 3
   have a4:=HO.out.cell 4
   have a5:=HO.out.cell 5
   have a6:=HO.out.cell 6
   have a7:=HO.out.cell 7
   simp only [Ja,Jb,Jc] at a0 a1 a2 a3 a4 a5 a6 a7
   have HCF:=Jh (cfew_calls w4 HEo.out (Nat.le_trans HBw.out HF4.out.below.size))
   go_wp2_with fail
   refine HCF.out.mono ?_
   rintro e w5 ⟨fo,rfl,hfo,hb5⟩
   have HF5:=Jh (HF4.out.on hb5)
   clear hb5 HF4 HCF HO HEo
   clear a0 a1 a2 a3 a4 a5 a6 a7
   cases fo
   ·clear hfo
    go_wp2
    go_ret
    exact ⟨rfl,HF5.out.below⟩
   have HG5:=Jh (HGN.out (hfo rfl))
   clear hfo HGN
   have h60:=H60.out
   go_wp2
   go_roundw
   case rel=>exact ⟨i+1,by omega,by go_num,HG5,HF5⟩
   case measure=>simp [intOf];omega
  obtain rfl:i=l.length:=by omega
  have HGL:Hid (∀ a∈l,Ge a.e):=Jh fun a ha=>by
   obtain ⟨j,hj,rfl⟩:=mem_gt ha
   exact HG.out j hj
  clear HG
  have a0:=HF.out.box.cell 0
  have a1:=HF.out.box.cell 1
  have a2:=HF.out.box.cell 2
  have a3:=HF.out.box.cell 3
  have a4:=HF.out.box.cell 4
  have a5:=HF.out.box.cell 5
  have a6:=HF.out.box.cell 6
  have a7:=HF.out.box.cell 7
  simp only [Ja,Jb,Jc] at a0 a1 a2 a3 a4 a5 a6 a7
  by_cases hbad:tries<1∨8<tries∨wait<0∨1099511627776<wait
  ·have HN:=Jh (new_bad wr (x:=x) (q:=q) tries wait hbad)
   clear hbad
   go_wp2_with fail
   refine HN.out.mono ?_
   rintro e w12 ⟨rfl,hb12⟩
   have HF6:=Jh (HF.out.on hb12)
   clear hb12 HN
   clear a0 a1 a2 a3 a4 a5 a6 a7
   go_wp2
   go_ret
   exact ⟨rfl,HF6.out.below⟩
  have ht1:1≤tries:=by omega
  have ht8:tries≤8:=by omega
  have hw0:0≤wait:=by omega
  have hw9:wait≤1099511627776:=by omega
  have HN:=Jh (newP_calls wr ((HE.out wr HF.out.below).more (Nat.le_trans HBw.out HF.out.below.size)) (Nat.le_refl _) HGe.out tries wait ht1 ht8 hw0 hw9)
  have HCin:Hid (Cin (newS x tries wait)):=Jh ⟨⟨HGe.out,Gd.zero,Gd.zero,⟨ht1,ht8⟩,⟨hw0,hw9⟩,fun _=>(by show ((0:Nat):Int)<tries;omega),fun h=>(by cases h),fun _=>rfl⟩,fun h=>(by cases h)⟩
  clear hbad ht1 ht8 hw0 hw9
  go_wp2_with fail
  refine HN.out.mono ?_
  rintro e w6 ⟨gc,qc,rfl,hc6,hb6⟩
  have HF6:=Jh (HF.out.on hb6)
  have HGC:Hid (w.heap.size≤wr.heap.size∧0<wr.heap.size):=Jh ⟨HF.out.below.size,by have:=HF.out.box.lt;omega⟩
  have hbs:=(Below.refl w6.heap.size w6).alloc (Nat.le_refl _) (.cells #[.slice none 0 0,.slice none 0 0,.int .i64 0,.int .i64 0,.int .i64 0] 72)
  have HS7:Hid (StM (w6.alloc (.cells #[.slice none 0 0,.slice none 0 0,.int .i64 0,.int .i64 0,.int .i64 0] 72)) w6.heap.size w6.heap.size zeroM 0 0):=Jh (.inl ⟨rfl,rfl,Nat.le_refl _,Blk.new _ _ _⟩)
  have HF7:=Jh (HF6.out.on hbs)
  have HC7:=Jh (hc6.below hbs)
  have HGS0:Hid (w.heap.size≤w6.heap.size):=Jh HF6.out.below.size
  have HO7:Hid (Onc x (newS x tries wait) zeroM 0 0 0):=Jh ⟨rfl,HCin.out,HW3.out,rfl,rfl,by omega,.inl ⟨rfl,rfl⟩,fun h=>(by cases h),.inl rfl⟩
  clear hc6 hb6 hbs HF HF6 HN HCin
  clear a0 a1 a2 a3 a4 a5 a6 a7
  generalize wr.heap.size=bc at *
  go_upto_region 13 with fail
  obtain ⟨gs,hgs⟩:∃ gs,gs=w6.heap.size:=⟨_,rfl⟩
  rw [← hgs] at HS7 HGS0 ⊢
  clear hgs
  generalize w6.alloc (.cells #[.slice none 0 0,.slice none 0 0,.int .i64 0,.int .i64 0,.int .i64 0] 72)=w7 at *
  have HP7:Hid (((0:Nat):Int)+pot l.length (newS x tries wait) 0 0≤1000):=Jh (by
   have h1:=H60.out
   have h2:stage (newS x tries wait) 0=2:=rfl
   have h3:wt (newS x tries wait) 0=381:=rfl
   unfold pot
   rw [h2,h3]
   omega)
  go_wp2
  go_loopw [3,13,14,62] (fun v3 v13 v14 vk wr=>∃ (k:Nat) (A':Option Addr) (c':Nat) (rest:List Ot) (s:Cst) (M:Md) (V now made mine:Int) (pr pn:Pl),k≤2000∧vk=.int .i64 (k:Int)∧v3=.slice A' rest.length c'∧v13=.int .i64 made∧v14=.int .i64 mine∧Hid (∀ W,Below w.heap.size w W→Oth W B A' c' rest)∧Hid (∀ a∈rest,Ge a.e)∧Hid (CmAt wr bc gc s qc pr pn)∧Hid (StM wr gs gs M V now)∧Hid (Onc x s M V made mine)∧Hid (s.asked=false)∧Hid (made+(rest.length:Int)≤60)∧Hid (0≤now∧now≤(k:Int))∧Hid (s.st=0→(k:Int)+pot rest.length s V now≤1000)∧Hid (Fr w wr gx x q)) (fun _ _ _ vk _=>2000-(intOf vk).toNat)
  case atStart=>exact ⟨0,A,c,l,newS x tries wait,zeroM,0,0,0,0,nilP,nilP,by omega,rfl,rfl,rfl,rfl,HL,HGL,HC7,HS7,HO7,Jh rfl,Jh (by have:=H60.out;omega),Jh ⟨by omega,by omega⟩,Jh fun _=>HP7.out,HF7⟩
  case round =>
   clear HC7 HS7 HO7 HP7 HF7 HL HGL HE
   obtain ⟨k,A',c',rest,s,M,V,now,made,mine,pr,pn,hk,rfl,rfl,rfl,rfl,HL,HGL,HC,HS,HO,HAs,HMd,HNow,HP,HF⟩:=hrel
   by_cases hlt:k<2000
   ·obtain ⟨z4,-,-⟩:=HS.out.now_
    cases hnb:nextB s now
    case false =>
     have HX:=Jh (next_no wr HC.out now hnb)
     have HNb:=Jh hnb
     clear hnb
     go_wp2_with fail
     refine HX.out.mono ?_
     rintro e wa ⟨rfl,hba⟩
     have hbb:=hba.trans ((Below.refl wa.heap.size wa).alloc (Nat.le_refl _) (.cells zeroCall 35) |>.mono hba.size)
     have HCb:=Jh (HC.out.below hbb)
     have HSb:=Jh (HS.out.below hbb)
     have HFb:=Jh (HF.out.on hbb)
     have HSp:=Jh (stateP_calls _ (HC.out.below hbb))
     clear hba hbb HX HC HS HF z4
     go_wp2_with fail
     generalize wa.alloc (.cells zeroCall 35)=wb at *
     refine HSp.out.mono ?_
     rintro e wc ⟨rfl,hbc⟩
     have HCc:=Jh (HCb.out.below hbc)
     have HSc:=Jh (HSb.out.below hbc)
     have HFc:=Jh (HFb.out.on hbc)
     clear hbc HSp HCb HSb HFb
     by_cases h0:s.st=0
     ·have e0:(s.st != 0)=false:=nef h0
      have HDue:Hid (now<s.due):=Jh (by
       have h1:¬ (s.st=0∧s.asked=false∧¬ now<s.due):=of_decide_eq_false HNb.out
       by_cases h2:now<s.due
       ·exact h2
       ·exact absurd ⟨h0,HAs.out,h2⟩ h1)
      have HTk:=Jh (tickC wc HSc.out HNow.out.1 (by have:=HNow.out.2;omega) (Nat.le_of_lt HSc.out.low.2))
      have HPn:=Jh (HP.out h0)
      clear h0
      go_wp2_with fail
      refine HTk.out.mono ?_
      rintro e wd ⟨rfl,hsd,hkd,hbd⟩
      have HCd:=Jh (HCc.out.kt hkd)
      have HSd:=Jh hsd
      have HFd:=Jh (HFc.out.kt hkd hbd HGS0.out)
      clear hsd hkd hbd HTk HCc HSc HFc e0
      go_wp2
      go_roundw
      case rel=>exact ⟨k+1,A',c',rest,s,M,V,now+1,made,mine,pr,pn,by omega,by go_num,rfl,rfl,rfl,HL,HGL,HCd,HSd,HO,HAs,HMd,Jh (by have:=HNow.out;omega),Jh (fun _=>by have h1:=HPn.out;have h2:=pot_tick (n:=rest.length) (V:=V) HDue.out;push_cast;omega),HFd⟩
      case measure=>simp [intOf];omega
     ·have e0:(s.st != 0)=true:=net h0
      have HNZ:=Jh h0
      clear h0
      go_wp2_with fail
      refine (nowC wc HSc.out).mono ?_
      rintro e wd ⟨pz,rfl,hmo,hbd⟩
      obtain ⟨UE,uE,UM,uM,UO,uO⟩:=pz
      have hbe:=hbd.trans ((Below.refl wd.heap.size wd).alloc (Nat.le_refl _) (.cells #[.int .i64 M.gen,.int .i64 M.cut,.int .i64 M.fence,.slice UE M.E.length uE,.slice UM M.M.length uM,.slice UO M.O.length uO] 53) |>.mono hbd.size)
      have HMe:=Jh (hmo.below ((Below.refl wd.heap.size wd).alloc (Nat.le_refl _) (.cells #[.int .i64 M.gen,.int .i64 M.cut,.int .i64 M.fence,.slice UE M.E.length uE,.slice UM M.M.length uM,.slice UO M.O.length uO] 53)))
      have HKe:=Jh (Blk.new wd 53 #[.int .i64 M.gen,.int .i64 M.cut,.int .i64 M.fence,.slice UE M.E.length uE,.slice UM M.M.length uM,.slice UO M.O.length uO])
      have HFe:=Jh (HFc.out.on hbe)
      have HCe:=Jh (HCc.out.below hbe)
      have HGM:=Jh HSc.out.gd.1
      clear hmo hbd hbe HSc HFc HCc
      go_upto_region 41 with fail
      obtain ⟨gz,hgz⟩:∃ gz,gz=wd.heap.size:=⟨_,rfl⟩
      rw [← hgz] at HKe ⊢
      clear hgz
      generalize wd.alloc (.cells #[.int .i64 M.gen,.int .i64 M.cut,.int .i64 M.fence,.slice UE M.E.length uE,.slice UM M.M.length uM,.slice UO M.O.length uO] 53)=we at *
      have y0:we.cell? ⟨gz,0,none⟩=some (.int .i64 M.gen):=HKe.out.cell 0
      have hm9:mine≤1:=by rcases HO.out.mn with ⟨h,_⟩|⟨h,_⟩<;>omega
      have hm0:0≤mine:=by rcases HO.out.mn with ⟨h,_⟩|⟨h,_⟩<;>omega
      have hmd:=HMd.out
      have hmk:=HO.out.md
      have e1:decide ((1:Int)<mine)=false:=dcf (by omega)
      have i1:IntKind.i64.wrap (made+mine)=made+mine:=by rw [IntKind.wrap_i64];omega
      have e2:(M.gen != made+mine)=false:=nef HO.out.gen
      clear hm9 hm0 hmd hmk
      have HSp:=Jh (stateP_calls we HCe.out)
      go_wp2_with fail
      refine HSp.out.mono ?_
      rintro e wf ⟨rfl,hbf⟩
      have HMf:=Jh (HMe.out.below hbf)
      have HKf:=Jh (HKe.out.below hbf HKe.out.lt)
      have HFf:=Jh (HFe.out.on hbf)
      have HCf:=Jh (HCe.out.below hbf)
      clear hbf HSp HMe HKe HFe HCe y0 e1 i1 e2
      have HST:=Jh HO.out.st
      have HMN:=Jh HO.out.mn
      have HGR:=Jh HO.out.cin.g.read
      generalize hst:s.st=st at *
      generalize her:s.er=er at *
      clear hst her
      rcases HST.out with h0|⟨h1,hmi,he0,hdr⟩|⟨h2,hmi,he0⟩|⟨h3,he0⟩
      ·exact absurd h0 HNZ.out
      ·have HDD:Hid (M.O.any (didB x.by_)=true∧s.read.O.any (didB x.by_)=true):=Jh ⟨by
        rcases HMN.out with ⟨h,_⟩|⟨_,h⟩
        ·omega
        ·exact h,hdr⟩
       have q1:(st == 1)=true:=eqt h1
       have q2:(mine == 1)=true:=eqt hmi
       have q3:(er == 0)=true:=eqt he0
       have HK2:Hid (∀ W,Below wf.heap.size wf W→(W.cell? ⟨gz,0,none⟩=some (.int .i64 M.gen)∧W.cell? ⟨gz,1,none⟩=some (.int .i64 M.cut)∧W.cell? ⟨gz,2,none⟩=some (.int .i64 M.fence)∧W.cell? ⟨gz,3,none⟩=some (.slice UE M.E.length uE)∧W.cell? ⟨gz,4,none⟩=some (.slice UM M.M.length uM)∧W.cell? ⟨gz,5,none⟩=some (.slice UO M.O.length uO))∧(W.cell? ⟨gx,5,none⟩=some (.int .i64 x.by_.agent)∧W.cell? ⟨gx,6,none⟩=some (.int .i64 x.by_.life)∧W.cell? ⟨gx,7,none⟩=some (.int .i64 x.by_.count))):=Jh fun W hW=>by
        have h1:=HKf.out.below hW HKf.out.lt
        have h2:=HFf.out.box.below hW HFf.out.box.lt
        exact ⟨⟨h1.cell 0,h1.cell 1,h1.cell 2,h1.cell 3,h1.cell 4,h1.cell 5⟩,h2.cell 5,h2.cell 6,h2.cell 7⟩
       have HDA:Hid (∀ W,Below wf.heap.size wf W→Calls Tryz.prog 25 #[mdV M ⟨UE,uE,UM,uM,UO,uO⟩,owV x.by_] W fun e w'=>e=.returned (.bool true)∧Below W.heap.size W w'):=Jh fun W hW=>by
        refine (didR_of W ((HMf.out.below hW).good HGM.out) (Nat.le_refl _) x.by_).mono ?_
        rintro e w' ⟨rfl,hb⟩
        exact ⟨by rw [HDD.out.1],hb⟩
       have HDB:Hid (∀ W (b:Nat) (pz:Pl),Mow W b s.read pz→Calls Tryz.prog 25 #[mdV s.read pz,owV x.by_] W fun e w'=>e=.returned (.bool true)∧Below W.heap.size W w'):=Jh fun W b pz hmo=>by
        refine (didR_of W (hmo.good HGR.out) (Nat.le_refl _) x.by_).mono ?_
        rintro e w' ⟨rfl,hb⟩
        exact ⟨by rw [HDD.out.2],hb⟩
       have HMn:=Jh fun W (hW:Below wf.heap.size wf W)=>manP_calls W (HCf.out.below hW) HGR.out
       have HW1:Hid (Below wf.heap.size wf wf.drew):=Jh (below_drewN_ (Below.refl _ _) 1)
       clear h1 hmi he0 hdr HST HMN
       go_upto_region 46 with fail
       refine wp_region_T 99 (fun w'=>(w'.cell? ⟨gz,0,none⟩=some (.int .i64 M.gen)∧w'.cell? ⟨gz,1,none⟩=some (.int .i64 M.cut)∧w'.cell? ⟨gz,2,none⟩=some (.int .i64 M.fence)∧w'.cell? ⟨gz,3,none⟩=some (.slice UE M.E.length uE)∧w'.cell? ⟨gz,4,none⟩=some (.slice UM M.M.length uM)∧w'.cell? ⟨gz,5,none⟩=some (.slice UO M.O.length uO))∧(w'.cell? ⟨gx,5,none⟩=some (.int .i64 x.by_.agent)∧w'.cell? ⟨gx,6,none⟩=some (.int .i64 x.by_.life)∧w'.cell? ⟨gx,7,none⟩=some (.int .i64 x.by_.count))) (by kernel_rfl) (HK2.out _ (below_drewN_ (Below.refl _ _) 1)) (fun hHeld=>?_)
       generalize wf.drew=u0 at *
       apply tkT 0
       apply tkT 1
       apply tkT 2
       apply tkT 3
       apply tkT 4
       apply tkT 5
       apply tkT 6
       apply tkT 7
       apply tkT 8
       apply tkT 9
       refine wpAnyT_one (i:=10) (by kernel_rfl) rfl (fun K hK=>?_);go_simp
       refine (HDA.out _ HW1.out).mono ?_
       rintro e wg ⟨rfl,hbg⟩
       have HEF:=Jh (HW1.out.trans (hbg.mono HW1.out.size))
       have hSf:=HK2.out _ HEF.out
       refine hK.out _ _ (fun _=>hSf) ?_
       clear hK K hHeld hbg
       (try simp only [Act.put,Jk,Jg,Ji,Jd,Je,Jf])
       apply tkT 11
       apply tkT 12
       apply tkT 13
       apply tkT 15
       apply tkT 16
       refine wpAnyT_one (i:=14) (by kernel_rfl) rfl (fun K hK=>?_);go_simp
       refine (HMn.out _ HEF.out).mono ?_
       rintro e wh ⟨pz2,rfl,hmo2,hbh⟩
       have HEG:=Jh (HEF.out.trans (hbh.mono HEF.out.size))
       have HM2:=Jh hmo2
       have hSg:=HK2.out _ HEG.out
       refine hK.out _ _ (fun _=>hSg) ?_
       clear hK K hSf hbh hmo2
       (try simp only [Act.put,Jk,Jg,Ji,Jd,Je,Jf])
       refine wpAnyT_one (i:=17) (by kernel_rfl) rfl (fun K hK=>?_);go_simp
       refine (HDB.out _ _ _ HM2.out).mono ?_
       rintro e wi ⟨rfl,hbi⟩
       have HEH:=Jh (HEG.out.trans (hbi.mono HEG.out.size))
       have hSh:=HK2.out _ HEH.out
       refine hK.out _ _ (fun _=>hSh) ?_
       clear hK K hSg hbi
       (try simp only [Act.put,Jk,Jg,Ji,Jd,Je,Jf])
       apply tkT 18
       apply tkT 19
       refine wpAnyT_done (by kernel_rfl) ?_ _
       have HFh:=Jh (HFf.out.on HEH.out)
       clear hSh HK2 HDA HDB HMn q1 q2 q3
       go_wp2
       go_ret
       exact ⟨rfl,HFh.out.below⟩
      ·have q1:(st == 1)=false:=eqf (by omega)
       have q2:(st == 2)=true:=eqt h2
       have q3:(mine == 0)=true:=eqt hmi
       have q4:(er != 0)=true:=net he0
       clear h2 hmi he0
       go_wp2
       go_ret
       exact ⟨rfl,HFf.out.below⟩
      ·have q1:(st == 1)=false:=eqf (by omega)
       have q2:(st == 2)=false:=eqf (by omega)
       have q3:(st == 3)=true:=eqt h3
       have q4:(er == 15)=true:=eqt he0
       clear h3 he0
       go_wp2
       go_ret
       exact ⟨rfl,HFf.out.below⟩
    case true =>
     have hs0:s.st=0:=(of_decide_eq_true hnb).1
     have HX:=Jh (nextO HGC.out.2 wr (HSh.out _ HF.out.below) HC.out HO.out.cin now hnb)
     have HOk:=Jh (HO.out.ask hs0)
     have HPn:=Jh (HP.out hs0)
     clear hnb hs0
     go_wp2_with fail
     refine HX.out.mono ?_
     rintro e wa ⟨kd,vv,Ac,nn,cc,rfl,hcd,hca,hoa⟩
     have hfa:=HF.out.only hoa HC.out.blk (Nat.le_trans HGC.out.1 HC.out.low)
     have hsa:=HS.out.other hoa HC.out.blk (by decide) (by decide) (by decide)
     have hbb:=(Below.refl wa.heap.size wa).alloc (Nat.le_refl _) (.cells (callC kd manK Ac nn cc vv) 35)
     have HCb:=Jh (hca.below hbb)
     have HSb:=Jh (hsa.below hbb)
     have HFb:=Jh (hfa.on hbb)
     have HDb:=Jh (hcd.below hbb)
     have HKb:=Jh (Blk.new wa 35 (callC kd manK Ac nn cc vv))
     clear hca hoa hcd hfa hsa hbb HX HC HS HF HP HAs HO z4
     go_upto_region 21 with fail
     obtain ⟨gk,hgk⟩:∃ gk,gk=wa.heap.size:=⟨_,rfl⟩
     rw [← hgk] at HKb ⊢
     clear hgk
     generalize wa.alloc (.cells (callC kd manK Ac nn cc vv) 35)=wb at *
     go_upto_if 86 with fail
     go_cut [3,13,19] (fun v3 v13 v19 wx=>∃ W9:World,W9=wx∧∃ (A2:Option Addr) (c2:Nat) (rest2:List Ot) (M2:Md) (V2 made2 fate:Int),v3=.slice A2 rest2.length c2∧v13=.int .i64 made2∧v19=.int .i64 fate∧Hid (∀ W,Below w.heap.size w W→Oth W B A2 c2 rest2)∧Hid (∀ a∈rest2,Ge a.e)∧Hid (CmAt W9 bc gc { s with asked:=true } qc pr pn)∧Hid (StM W9 gs gs M2 V2 now)∧Hid (Onc x { s with asked:=true } M2 V2 made2 mine)∧Hid (made2+(rest2.length:Int)≤60)∧Hid (Fr w W9 gx x q)∧Hid (Cdat W9 s kd vv Ac nn cc)∧Hid (Blk W9 gk 35 (callC kd manK Ac nn cc vv))∧Hid (Eats rest.length rest2.length V V2 fate))
     case first =>
      by_cases hn0:0<rest.length
      ·have d1:decide ((0:Int)<(rest.length:Int))=true:=dct (by omega)
       have d2:decide (0<rest.length)=true:=decide_eq_true hn0
       have hi1:(0:Int)<(rest.length:Int):=by omega
       have HLb:=Jh (HL.out wb HFb.out.below)
       have hrd:=HLb.out.rd
       obtain ⟨b,off,hA,hbB,hcell⟩:=row_at ots_len hrd (by omega)
       have hci:=hcell 0 hn0
       have p0:=hci 0 _ rfl
       have p1:=hci 1 _ rfl
       have p2:=hci 2 _ rfl
       have p3:=hci 3 _ rfl
       have p4:=hci 4 _ rfl
       have p5:=hci 5 _ rfl
       have p6:=hci 6 _ rfl
       have p7:=hci 7 _ rfl
       have p8:=hci 8 _ rfl
       rw [Nat.add_zero] at p0
       clear hcell hci hrd
       simp only [Nat.zero_mul,Nat.add_zero] at p0 p1 p2 p3 p4 p5 p6 p7 p8
       have HGo:=Jh (HGL.out _ (gt_mem hn0))
       have HEo:=Jh (HLb.out.ok _ (gt_mem hn0))
       have hcap:=HLb.out.cap
       have hsl:=fun W=>sliceOt_at W A' rest.length c' (by omega) hcap
       have HL2:Hid (∀ W,Below w.heap.size w W→Oth W B (cut9 A' c') (c'-1) (rest.drop 1)):=Jh fun W hW=>Oth.cut' (HL.out W hW) hn0
       have HG2:Hid (∀ a∈rest.drop 1,Ge a.e):=Jh fun a ha=>HGL.out a (List.mem_of_mem_drop ha)
       have HLN:Hid (rest.length-1=(rest.drop 1).length∧(rest.drop 1).length+1=rest.length):=Jh ⟨by rw [List.length_drop],by rw [List.length_drop];omega⟩
       generalize gt rest 0=o at *
       have hbo:=(Below.refl wb.heap.size wb).alloc (Nat.le_refl _) (.cells #[.slice o.q.AA o.e.add.length o.q.cA,.slice o.q.AD o.e.drop.length o.q.cD,.slice o.q.AM o.e.marks.length o.q.cM,.int .i64 o.e.cut,.int .i64 o.e.fence,.int .i64 o.e.by_.agent,.int .i64 o.e.by_.life,.int .i64 o.e.by_.count,.int .i64 o.fate] 67)
       have HOb:=Jh (Blk.new wb 67 #[.slice o.q.AA o.e.add.length o.q.cA,.slice o.q.AD o.e.drop.length o.q.cD,.slice o.q.AM o.e.marks.length o.q.cM,.int .i64 o.e.cut,.int .i64 o.e.fence,.int .i64 o.e.by_.agent,.int .i64 o.e.by_.life,.int .i64 o.e.by_.count,.int .i64 o.fate])
       have HC4:=Jh (HCb.out.below hbo)
       have HS4:=Jh (HSb.out.below hbo)
       have HF4:=Jh (HFb.out.on hbo)
       have HD4:=Jh (HDb.out.below hbo)
       have HK4:=Jh (HKb.out.below hbo HKb.out.lt)
       have HE4:=Jh (HEo.out.below (hbo.mono (Nat.le_trans HBw.out HFb.out.below.size)))
       clear hbo hcap HCb HSb HFb HDb HKb HEo HLb HL HGL hn0
       generalize cut9 A' c'=A2 at *
       subst hA
       go_upto_region 25 with fail
       clear p0 p1 p2 p3 p4 p5 p6 p7 p8 hsl d1 d2 hi1
       obtain ⟨go,hgo⟩:∃ go,go=wb.heap.size:=⟨_,rfl⟩
       rw [← hgo] at HOb ⊢
       clear hgo
       generalize wb.alloc (.cells #[.slice o.q.AA o.e.add.length o.q.cA,.slice o.q.AD o.e.drop.length o.q.cD,.slice o.q.AM o.e.marks.length o.q.cM,.int .i64 o.e.cut,.int .i64 o.e.fence,.int .i64 o.e.by_.agent,.int .i64 o.e.by_.life,.int .i64 o.e.by_.count,.int .i64 o.fate] 67)=w4 at *
       rw [HLN.out.1]
       have a0:=HOb.out.cell 0
       have a1:=HOb.out.cell 1
       have a2:=HOb.out.cell 2
       have a3:=HOb.out.cell 3
       have a4:=HOb.out.cell 4
       have a5:=HOb.out.cell 5
       have a6:=HOb.out.cell 6
       have a7:=HOb.out.cell 7
       simp only [Ja,Jb,Jc] at a0 a1 a2 a3 a4 a5 a6 a7
       have a8:w4.cell? ⟨go,8,none⟩=some (.int .i64 o.fate):=HOb.out.cell 8
       have x5:w4.cell? ⟨gx,5,none⟩=some (.int .i64 x.by_.agent):=HF4.out.box.cell 5
       by_cases hag:o.e.by_.agent=x.by_.agent
       ·have e1:(o.e.by_.agent != x.by_.agent)=false:=nef hag
        clear hag
        go_wp2
        go_meet
        case rel=>exact ⟨_,rfl,A2,c'-1,rest.drop 1,M,V,made,o.fate,by first|rfl|(rw [HLN.out.1]),rfl,rfl,HL2,HG2,HC4,HS4,HOk,Jh (by have:=HMd.out;have:=HLN.out.2;omega),HF4,HD4,HK4,Jh (.inr HLN.out.2)⟩
       ·have e1:(o.e.by_.agent != x.by_.agent)=true:=net hag
        have HAg:=Jh hag
        have hvb:V≤1000000:=by
         have h1:=HOk.out.ver
         have h2:=HMd.out
         rcases HOk.out.mn with ⟨h,_⟩|⟨h,_⟩<;>omega
        have HSw:=Jh (swapC w4 HS4.out HE4.out (Nat.le_trans HBw.out HF4.out.below.size) HGo.out hvb (Nat.le_of_lt HS4.out.low.2))
        clear hag hvb
        go_wp2_with fail
        refine HSw.out.mono ?_
        rintro e w5 ⟨bs,rfl,hbt,hbf,hs5,hk5,hb5⟩
        have HO5:=Jh (HOk.out.swap HAg.out bs hbt hbf)
        have HC5:=Jh (HC4.out.kt hk5)
        have HS5:=Jh hs5
        have HF5:=Jh (HF4.out.kt hk5 hb5 HGS0.out)
        have HD5:=Jh (HD4.out.kt hk5)
        have HK5:=Jh (hk5.blk_ HK4.out (by decide) (by decide))
        clear hbt hbf hs5 hk5 hb5 HSw HC4 HS4 HF4 HD4 HK4 HOb HE4 a0 a1 a2 a3 a4 a5 a6 a7 a8 x5 e1
        cases bs
        ·simp only [if_neg (show ¬ false=true by decide)] at HO5 HS5
         go_wp2
         go_meet
         case rel=>exact ⟨_,rfl,A2,c'-1,rest.drop 1,swM M o.e,V,made,o.fate,by first|rfl|(rw [HLN.out.1]),rfl,rfl,HL2,HG2,HC5,HS5,HO5,Jh (by have:=HMd.out;have:=HLN.out.2;omega),HF5,HD5,HK5,Jh (.inr HLN.out.2)⟩
        ·simp only [if_true] at HO5 HS5
         have i1:IntKind.i64.wrap (made+1)=made+1:=by rw [IntKind.wrap_i64];have:=HMd.out;have:=HOk.out.md;omega
         go_wp2
         go_meet
         case rel=>exact ⟨_,rfl,A2,c'-1,rest.drop 1,swM M o.e,V+1,made+1,o.fate,by first|rfl|(rw [HLN.out.1]),by first|rfl|(rw [i1]),rfl,HL2,HG2,HC5,HS5,HO5,Jh (by have:=HMd.out;have:=HLN.out.2;omega),HF5,HD5,HK5,Jh (.inr HLN.out.2)⟩
      ·have d1:decide ((0:Int)<(rest.length:Int))=false:=dcf (by omega)
       have d2:decide (0<rest.length)=false:=decide_eq_false hn0
       go_wp2
       go_meet
       case rel=>exact ⟨_,rfl,A',c',rest,M,V,made,0,rfl,rfl,rfl,HL,HGL,HCb,HSb,HOk,HMd,HFb,HDb,HKb,Jh (.inl ⟨rfl,rfl,rfl⟩)⟩
     case rest =>
      obtain ⟨W9,rfl,A2,c2,rest2,M2,V2,made2,fate,rfl,rfl,rfl,HL2,HG2,HC9,HS9,HO9,HMd9,HF9,HD9,HK9,HEat⟩:=hcut
      clear HCb HSb HFb HDb HKb HL HGL HOk HMd
      have hbr:=(Below.refl W9.heap.size W9).alloc (Nat.le_refl _) (.cells (repA 10 none 0 0 0 (.int .i64 0) (.int .i64 0) (.slice none 0 0) (.bool false)) 42)
      have HR0:=Jh (Blk.new W9 42 (repA 10 none 0 0 0 (.int .i64 0) (.int .i64 0) (.slice none 0 0) (.bool false)))
      have HC0:=Jh (HC9.out.below hbr)
      have HS0:=Jh (HS9.out.below hbr)
      have HF0:=Jh (HF9.out.on hbr)
      have HD0:=Jh (HD9.out.below hbr)
      have HK0:=Jh (HK9.out.below hbr HK9.out.lt)
      have HGR:Hid (w.heap.size≤W9.heap.size):=Jh HF9.out.below.size
      clear hbr HC9 HS9 HF9 HD9 HK9
      go_upto_region 29 with fail
      obtain ⟨gr,hgr⟩:∃ gr,gr=W9.heap.size:=⟨_,rfl⟩
      rw [← hgr] at HR0 HGR ⊢
      clear hgr
      generalize W9.alloc (.cells (repA 10 none 0 0 0 (.int .i64 0) (.int .i64 0) (.slice none 0 0) (.bool false)) 42)=w0 at *
      go_upto_block 4 with fail
      go_cut [14] (fun v14 wx=>∃ W8:World,W8=wx∧∃ (err ver born:Int) (A8:Option Addr) (c8:Nat) (d8:List UInt8) (M3:Md) (V3 mine3:Int),v14=.int .i64 mine3∧Hid (Blk W8 gr 42 (repA err A8 d8.length c8 ver (.int .i64 born) (.int .i64 0) (.slice none 0 0) (.bool false)))∧Hid (∃ b,W8.ownsRow b 5 1 (.slice A8 d8.length c8) d8.length (d8.map byteV))∧Hid (d8.length≤262144)∧Hid (CmAt W8 bc gc { s with asked:=true } qc pr pn)∧Hid (StM W8 gs gs M3 V3 now)∧Hid (Fr w W8 gx x q)∧Hid (OnEnds x rest.length rest2.length s V { s with asked:=true } err d8 ver now M3 V3 made2 mine3))
      case first =>
       by_cases f1:fate=1
       ·have e1:(fate == 1)=true:=eqt f1
        have HNF:Hid (fate≠0):=Jh (by omega)
        clear f1
        go_wp2
        go_meet
        case rel=>exact ⟨_,rfl,10,0,0,none,0,[],M2,V2,mine,rfl,HR0,Jh ⟨0,World.ownsRow_nil _ _ _ _⟩,Jh (Nat.zero_le _),HC0,HS0,HF0,Jh (end_lost HO9.out HEat.out HNF.out (.inl rfl))⟩
       have e1:(fate == 1)=false:=eqf f1
       by_cases f3:fate=3
       ·have e3:(fate == 3)=true:=eqt f3
        have HNF:Hid (fate≠0):=Jh (by omega)
        clear f1 f3
        have q0:=HR0.out.cell 0
        have q1:=HR0.out.cell 1
        have q2:=HR0.out.cell 2
        have q3:=HR0.out.cell 3
        have q4:=HR0.out.cell 4
        have q5:=HR0.out.cell 5
        have q6:=HR0.out.cell 6
        have f0:=HR0.out.frozen 0
        have f1:=HR0.out.frozen 1
        have f2:=HR0.out.frozen 2
        have f3:=HR0.out.frozen 3
        have f4:=HR0.out.frozen 4
        have f5:=HR0.out.frozen 5
        have f6:=HR0.out.frozen 6
        simp only [Ja,Jb,Jc] at q0 q1 q2 q3 q4 q5 q6
        have hon:=set7_self w0 gr (.int .i64 9) (.slice none 0 0) (.int .i64 0) (.int .i64 0) (.int .i64 0) (.slice none 0 0) (.bool false)
        have HRa:=Jh (set7_blk HR0.out (.int .i64 9) (.slice none 0 0) (.int .i64 0) (.int .i64 0) (.int .i64 0) (.slice none 0 0) (.bool false))
        have HCa:=Jh (HC0.out.other hon HR0.out (by decide) (by decide) (by decide) (by decide) (by decide))
        have HSa:=Jh (HS0.out.other hon HR0.out (by decide) (by decide) (by decide))
        have HFa:=Jh (HF0.out.other hon HR0.out (by decide) HGR.out)
        have HKa:=Jh (hon.blk HK0.out (HK0.out.ne_ HR0.out (by decide)))
        have HWa:Hid (∀ (b n:Nat) (A:Option Addr) (c:Nat) (d:List UInt8),w0.ownsRow b 5 1 (.slice A n c) n (d.map byteV)→(set7 w0 gr (.int .i64 9) (.slice none 0 0) (.int .i64 0) (.int .i64 0) (.int .i64 0) (.slice none 0 0) (.bool false)).ownsRow b 5 1 (.slice A n c) n (d.map byteV)):=Jh fun b n A c d h=>own_free h hon HR0.out (by decide)
        unfold set7 at HRa HCa HSa HFa HKa HWa
        clear hon
        go_wp2
        go_meet
        case rel=>exact ⟨_,rfl,9,0,0,none,0,[],M2,V2,mine,rfl,HRa,Jh ⟨0,World.ownsRow_nil _ _ _ _⟩,Jh (Nat.zero_le _),HCa,HSa,HFa,Jh (end_lost HO9.out HEat.out HNF.out (.inr rfl))⟩
       have e3:(fate == 3)=false:=eqf f3
       have HFT:Hid (fate=2→fate≠0):=Jh (by omega)
       clear f1 f3
       have c0:=HK0.out.cell 0
       have c1:=HK0.out.cell 1
       have c2:=HK0.out.cell 2
       have c3:=HK0.out.cell 3
       have c4:=HK0.out.cell 4
       have c5:=HK0.out.cell 5
       have c6:=HK0.out.cell 6
       simp only [Ja,Jb,Jc] at c0 c1 c2 c3 c4 c5 c6
       have hv2:V2≤1000000:=by
        have h1:=HO9.out.ver
        have h2:=HMd9.out
        rcases HO9.out.mn with ⟨h,_⟩|⟨h,_⟩<;>omega
       have HCi:Hid (Cin s):=Jh ⟨⟨HO9.out.cin.g.ge,HO9.out.cin.g.read,HO9.out.cin.g.next,HO9.out.cin.g.tries,HO9.out.cin.g.wait,HO9.out.cin.g.fails,fun _=>HO9.out.cin.g.asked rfl,HO9.out.cin.g.er⟩,HO9.out.cin.right⟩
       have HDo:=Jh (doO w0 HS0.out HD0.out HCi.out (fun hw=>⟨(HO9.out.wr hw).2.1,(HO9.out.wr hw).2.2.1⟩) hv2)
       clear hv2
       go_wp2_with fail
       refine HDo.out.mono ?_
       rintro e w11 ⟨err,ver,born,A8,c8,d8,rfl,hown,hdl,hk,hb,hcase⟩
       have HC1:=Jh (HC0.out.kt hk)
       have HF1:=Jh (HF0.out.kt hk hb HGS0.out)
       have HR1:=Jh (hk.blk_ HR0.out (by decide) (by decide))
       have HK1:=Jh (hk.blk_ HK0.out (by decide) (by decide))
       have HOw:=Jh hown
       have HDl:=Jh hdl
       clear hown hdl hk hb HDo HC0 HS0 HF0 HR0 HK0 HD0 c0 c1 c2 c3 c4 c5 c6
       rcases hcase with ⟨rfl,hw,hs,hvr,hc⟩|⟨rfl,hw,hvr,he0,hs⟩|⟨rfl,hw,hvr,he0,hs⟩
       ·have HS1:=Jh hs
        have HWc:=Jh (And.intro hw (And.intro hvr hc))
        clear hw hs hvr hc
        have q0:=HR1.out.cell 0
        have q1:=HR1.out.cell 1
        have q2:=HR1.out.cell 2
        have q3:=HR1.out.cell 3
        have q4:=HR1.out.cell 4
        have q5:=HR1.out.cell 5
        have q6:=HR1.out.cell 6
        have f0:=HR1.out.frozen 0
        have f1:=HR1.out.frozen 1
        have f2:=HR1.out.frozen 2
        have f3:=HR1.out.frozen 3
        have f4:=HR1.out.frozen 4
        have f5:=HR1.out.frozen 5
        have f6:=HR1.out.frozen 6
        simp only [Ja,Jb,Jc] at q0 q1 q2 q3 q4 q5 q6
        have hon:=set7_self w11 gr (.int .i64 err) (.slice A8 d8.length c8) (.int .i64 ver) (.int .i64 born) (.int .i64 0) (.slice none 0 0) (.bool false)
        have HRa:=Jh (set7_blk HR1.out (.int .i64 err) (.slice A8 d8.length c8) (.int .i64 ver) (.int .i64 born) (.int .i64 0) (.slice none 0 0) (.bool false))
        have HCa:=Jh (HC1.out.other hon HR1.out (by decide) (by decide) (by decide) (by decide) (by decide))
        have HSa:=Jh (HS1.out.other hon HR1.out (by decide) (by decide) (by decide))
        have HFa:=Jh (HF1.out.other hon HR1.out (by decide) HGR.out)
        have HKa:=Jh (hon.blk HK1.out (HK1.out.ne_ HR1.out (by decide)))
        have HWa:Hid (∀ (b n:Nat) (A:Option Addr) (c:Nat) (d:List UInt8),w11.ownsRow b 5 1 (.slice A n c) n (d.map byteV)→(set7 w11 gr (.int .i64 err) (.slice A8 d8.length c8) (.int .i64 ver) (.int .i64 born) (.int .i64 0) (.slice none 0 0) (.bool false)).ownsRow b 5 1 (.slice A n c) n (d.map byteV)):=Jh fun b n A c d h=>own_free h hon HR1.out (by decide)
        unfold set7 at HRa HCa HSa HFa HKa HWa
        clear hon
        clear HR1 HC1 HS1 HF1 HK1
        go_upto_region 31 with fail
        clear q0 q1 q2 q3 q4 q5 q6 f0 f1 f2 f3 f4 f5 f6
        generalize ((((((w11.setCell ⟨gr,0,none⟩ (.int .i64 err)).setCell ⟨gr,1,none⟩ (.slice A8 d8.length c8)).setCell ⟨gr,2,none⟩ (.int .i64 ver)).setCell ⟨gr,3,none⟩ (.int .i64 born)).setCell ⟨gr,4,none⟩ (.int .i64 0)).setCell ⟨gr,5,none⟩ (.slice none 0 0)).setCell ⟨gr,6,none⟩ (.bool false)=w12 at *
        have c0:w12.cell? ⟨gk,0,none⟩=some (.int .i64 3):=HKa.out.cell 0
        by_cases f2:fate=2
        ·have e2:(fate == 2)=true:=eqt f2
         have HNF:=Jh (HFT.out f2)
         clear f2
         have q0:=HRa.out.cell 0
         have q1:=HRa.out.cell 1
         have q2:=HRa.out.cell 2
         have q3:=HRa.out.cell 3
         have q4:=HRa.out.cell 4
         have q5:=HRa.out.cell 5
         have q6:=HRa.out.cell 6
         have f0:=HRa.out.frozen 0
         have f1:=HRa.out.frozen 1
         have f2:=HRa.out.frozen 2
         have f3:=HRa.out.frozen 3
         have f4:=HRa.out.frozen 4
         have f5:=HRa.out.frozen 5
         have f6:=HRa.out.frozen 6
         simp only [Ja,Jb,Jc] at q0 q1 q2 q3 q4 q5 q6
         have hon:=set7_self w12 gr (.int .i64 10) (.slice none 0 0) (.int .i64 0) (.int .i64 0) (.int .i64 0) (.slice none 0 0) (.bool false)
         have HRb:=Jh (set7_blk HRa.out (.int .i64 10) (.slice none 0 0) (.int .i64 0) (.int .i64 0) (.int .i64 0) (.slice none 0 0) (.bool false))
         have HCb:=Jh (HCa.out.other hon HRa.out (by decide) (by decide) (by decide) (by decide) (by decide))
         have HSb:=Jh (HSa.out.other hon HRa.out (by decide) (by decide) (by decide))
         have HFb:=Jh (HFa.out.other hon HRa.out (by decide) HGR.out)
         have HKb:=Jh (hon.blk HKa.out (HKa.out.ne_ HRa.out (by decide)))
         have HWb:Hid (∀ (b n:Nat) (A:Option Addr) (c:Nat) (d:List UInt8),w12.ownsRow b 5 1 (.slice A n c) n (d.map byteV)→(set7 w12 gr (.int .i64 10) (.slice none 0 0) (.int .i64 0) (.int .i64 0) (.int .i64 0) (.slice none 0 0) (.bool false)).ownsRow b 5 1 (.slice A n c) n (d.map byteV)):=Jh fun b n A c d h=>own_free h hon HRa.out (by decide)
         unfold set7 at HRb HCb HSb HFb HKb HWb
         clear hon
         go_wp2
         go_meet
         case rel=>exact ⟨_,rfl,10,0,0,none,0,[],M2,V2,mine,rfl,HRb,Jh ⟨0,World.ownsRow_nil _ _ _ _⟩,Jh (Nat.zero_le _),HCb,HSb,HFb,Jh (end_lost HO9.out HEat.out HNF.out (.inl rfl))⟩
        ·have e2:(fate == 2)=false:=eqf f2
         clear f2
         go_wp2
         go_meet
         case rel=>exact ⟨_,rfl,err,ver,born,A8,c8,d8,M2,V2,mine,rfl,HRa,Jh (by obtain ⟨b,h⟩:=HOw.out;exact ⟨b,HWa.out b _ _ _ _ h⟩),HDl,HCa,HSa,HFa,Jh (by rw [HWc.out.2.1];exact end_saw HO9.out HEat.out HWc.out.1 HSa.out.gd.1 HSa.out.gd.2 HWc.out.2.2)⟩
       ·have HS1:=Jh hs
        have HWc:=Jh (And.intro hw hvr)
        have hm0:=(HO9.out.wr hw).1
        have HE0:=Jh he0
        have q9:(err == 0)=true:=eqt he0
        have i1:IntKind.i64.wrap (mine+1)=mine+1:=by rw [IntKind.wrap_i64];omega
        have HM1:Hid (mine+1=1):=Jh (by omega)
        clear hw hs hvr he0 hm0
        have q0:=HR1.out.cell 0
        have q1:=HR1.out.cell 1
        have q2:=HR1.out.cell 2
        have q3:=HR1.out.cell 3
        have q4:=HR1.out.cell 4
        have q5:=HR1.out.cell 5
        have q6:=HR1.out.cell 6
        have f0:=HR1.out.frozen 0
        have f1:=HR1.out.frozen 1
        have f2:=HR1.out.frozen 2
        have f3:=HR1.out.frozen 3
        have f4:=HR1.out.frozen 4
        have f5:=HR1.out.frozen 5
        have f6:=HR1.out.frozen 6
        simp only [Ja,Jb,Jc] at q0 q1 q2 q3 q4 q5 q6
        have hon:=set7_self w11 gr (.int .i64 err) (.slice A8 d8.length c8) (.int .i64 ver) (.int .i64 born) (.int .i64 0) (.slice none 0 0) (.bool false)
        have HRa:=Jh (set7_blk HR1.out (.int .i64 err) (.slice A8 d8.length c8) (.int .i64 ver) (.int .i64 born) (.int .i64 0) (.slice none 0 0) (.bool false))
        have HCa:=Jh (HC1.out.other hon HR1.out (by decide) (by decide) (by decide) (by decide) (by decide))
        have HSa:=Jh (HS1.out.other hon HR1.out (by decide) (by decide) (by decide))
        have HFa:=Jh (HF1.out.other hon HR1.out (by decide) HGR.out)
        have HKa:=Jh (hon.blk HK1.out (HK1.out.ne_ HR1.out (by decide)))
        have HWa:Hid (∀ (b n:Nat) (A:Option Addr) (c:Nat) (d:List UInt8),w11.ownsRow b 5 1 (.slice A n c) n (d.map byteV)→(set7 w11 gr (.int .i64 err) (.slice A8 d8.length c8) (.int .i64 ver) (.int .i64 born) (.int .i64 0) (.slice none 0 0) (.bool false)).ownsRow b 5 1 (.slice A n c) n (d.map byteV)):=Jh fun b n A c d h=>own_free h hon HR1.out (by decide)
        unfold set7 at HRa HCa HSa HFa HKa HWa
        clear hon
        clear HR1 HC1 HS1 HF1 HK1
        go_upto_region 31 with fail
        clear q0 q1 q2 q3 q4 q5 q6 f0 f1 f2 f3 f4 f5 f6
        generalize ((((((w11.setCell ⟨gr,0,none⟩ (.int .i64 err)).setCell ⟨gr,1,none⟩ (.slice A8 d8.length c8)).setCell ⟨gr,2,none⟩ (.int .i64 ver)).setCell ⟨gr,3,none⟩ (.int .i64 born)).setCell ⟨gr,4,none⟩ (.int .i64 0)).setCell ⟨gr,5,none⟩ (.slice none 0 0)).setCell ⟨gr,6,none⟩ (.bool false)=w12 at *
        have c0:w12.cell? ⟨gk,0,none⟩=some (.int .i64 2):=HKa.out.cell 0
        have c9:w12.cell? ⟨gr,0,none⟩=some (.int .i64 err):=HRa.out.cell 0
        by_cases f2:fate=2
        ·have e2:(fate == 2)=true:=eqt f2
         have HNF:=Jh (HFT.out f2)
         clear f2
         have q0:=HRa.out.cell 0
         have q1:=HRa.out.cell 1
         have q2:=HRa.out.cell 2
         have q3:=HRa.out.cell 3
         have q4:=HRa.out.cell 4
         have q5:=HRa.out.cell 5
         have q6:=HRa.out.cell 6
         have f0:=HRa.out.frozen 0
         have f1:=HRa.out.frozen 1
         have f2:=HRa.out.frozen 2
         have f3:=HRa.out.frozen 3
         have f4:=HRa.out.frozen 4
         have f5:=HRa.out.frozen 5
         have f6:=HRa.out.frozen 6
         simp only [Ja,Jb,Jc] at q0 q1 q2 q3 q4 q5 q6
         have hon:=set7_self w12 gr (.int .i64 10) (.slice none 0 0) (.int .i64 0) (.int .i64 0) (.int .i64 0) (.slice none 0 0) (.bool false)
         have HRb:=Jh (set7_blk HRa.out (.int .i64 10) (.slice none 0 0) (.int .i64 0) (.int .i64 0) (.int .i64 0) (.slice none 0 0) (.bool false))
         have HCb:=Jh (HCa.out.other hon HRa.out (by decide) (by decide) (by decide) (by decide) (by decide))
         have HSb:=Jh (HSa.out.other hon HRa.out (by decide) (by decide) (by decide))
         have HFb:=Jh (HFa.out.other hon HRa.out (by decide) HGR.out)
         have HKb:=Jh (hon.blk HKa.out (HKa.out.ne_ HRa.out (by decide)))
         have HWb:Hid (∀ (b n:Nat) (A:Option Addr) (c:Nat) (d:List UInt8),w12.ownsRow b 5 1 (.slice A n c) n (d.map byteV)→(set7 w12 gr (.int .i64 10) (.slice none 0 0) (.int .i64 0) (.int .i64 0) (.int .i64 0) (.slice none 0 0) (.bool false)).ownsRow b 5 1 (.slice A n c) n (d.map byteV)):=Jh fun b n A c d h=>own_free h hon HRa.out (by decide)
         unfold set7 at HRb HCb HSb HFb HKb HWb
         clear hon
         go_wp2
         go_meet
         case rel=>exact ⟨_,rfl,10,0,0,none,0,[],s.next,(V2+1),1,by first|(rw [i1,HM1.out])|(rw [HM1.out]),HRb,Jh ⟨0,World.ownsRow_nil _ _ _ _⟩,Jh (Nat.zero_le _),HCb,HSb,HFb,Jh (end_mute HO9.out HEat.out HNF.out HWc.out.1 HWc.out.2)⟩
        ·have e2:(fate == 2)=false:=eqf f2
         clear f2
         go_wp2
         go_meet
         case rel=>exact ⟨_,rfl,err,ver,born,A8,c8,d8,s.next,V2+1,1,by first|(rw [i1,HM1.out])|(rw [HM1.out]),HRa,Jh (by obtain ⟨b,h⟩:=HOw.out;exact ⟨b,HWa.out b _ _ _ _ h⟩),HDl,HCa,HSa,HFa,Jh (by rw [HE0.out];exact end_told HO9.out HWc.out.1 HWc.out.2)⟩
       ·have HS1:=Jh hs
        have HWc:=Jh (And.intro hw hvr)
        have HE0:=Jh he0
        have q9:(err == 0)=false:=eqf (by omega)
        clear hw hs hvr he0
        have q0:=HR1.out.cell 0
        have q1:=HR1.out.cell 1
        have q2:=HR1.out.cell 2
        have q3:=HR1.out.cell 3
        have q4:=HR1.out.cell 4
        have q5:=HR1.out.cell 5
        have q6:=HR1.out.cell 6
        have f0:=HR1.out.frozen 0
        have f1:=HR1.out.frozen 1
        have f2:=HR1.out.frozen 2
        have f3:=HR1.out.frozen 3
        have f4:=HR1.out.frozen 4
        have f5:=HR1.out.frozen 5
        have f6:=HR1.out.frozen 6
        simp only [Ja,Jb,Jc] at q0 q1 q2 q3 q4 q5 q6
        have hon:=set7_self w11 gr (.int .i64 err) (.slice A8 d8.length c8) (.int .i64 ver) (.int .i64 born) (.int .i64 0) (.slice none 0 0) (.bool false)
        have HRa:=Jh (set7_blk HR1.out (.int .i64 err) (.slice A8 d8.length c8) (.int .i64 ver) (.int .i64 born) (.int .i64 0) (.slice none 0 0) (.bool false))
        have HCa:=Jh (HC1.out.other hon HR1.out (by decide) (by decide) (by decide) (by decide) (by decide))
        have HSa:=Jh (HS1.out.other hon HR1.out (by decide) (by decide) (by decide))
        have HFa:=Jh (HF1.out.other hon HR1.out (by decide) HGR.out)
        have HKa:=Jh (hon.blk HK1.out (HK1.out.ne_ HR1.out (by decide)))
        have HWa:Hid (∀ (b n:Nat) (A:Option Addr) (c:Nat) (d:List UInt8),w11.ownsRow b 5 1 (.slice A n c) n (d.map byteV)→(set7 w11 gr (.int .i64 err) (.slice A8 d8.length c8) (.int .i64 ver) (.int .i64 born) (.int .i64 0) (.slice none 0 0) (.bool false)).ownsRow b 5 1 (.slice A n c) n (d.map byteV)):=Jh fun b n A c d h=>own_free h hon HR1.out (by decide)
        unfold set7 at HRa HCa HSa HFa HKa HWa
        clear hon
        clear HR1 HC1 HS1 HF1 HK1
        go_upto_region 31 with fail
        clear q0 q1 q2 q3 q4 q5 q6 f0 f1 f2 f3 f4 f5 f6
        generalize ((((((w11.setCell ⟨gr,0,none⟩ (.int .i64 err)).setCell ⟨gr,1,none⟩ (.slice A8 d8.length c8)).setCell ⟨gr,2,none⟩ (.int .i64 ver)).setCell ⟨gr,3,none⟩ (.int .i64 born)).setCell ⟨gr,4,none⟩ (.int .i64 0)).setCell ⟨gr,5,none⟩ (.slice none 0 0)).setCell ⟨gr,6,none⟩ (.bool false)=w12 at *
        have c0:w12.cell? ⟨gk,0,none⟩=some (.int .i64 2):=HKa.out.cell 0
        have c9:w12.cell? ⟨gr,0,none⟩=some (.int .i64 err):=HRa.out.cell 0
        by_cases f2:fate=2
        ·have e2:(fate == 2)=true:=eqt f2
         have HNF:=Jh (HFT.out f2)
         clear f2
         have q0:=HRa.out.cell 0
         have q1:=HRa.out.cell 1
         have q2:=HRa.out.cell 2
         have q3:=HRa.out.cell 3
         have q4:=HRa.out.cell 4
         have q5:=HRa.out.cell 5
         have q6:=HRa.out.cell 6
         have f0:=HRa.out.frozen 0
         have f1:=HRa.out.frozen 1
         have f2:=HRa.out.frozen 2
         have f3:=HRa.out.frozen 3
         have f4:=HRa.out.frozen 4
         have f5:=HRa.out.frozen 5
         have f6:=HRa.out.frozen 6
         simp only [Ja,Jb,Jc] at q0 q1 q2 q3 q4 q5 q6
         have hon:=set7_self w12 gr (.int .i64 10) (.slice none 0 0) (.int .i64 0) (.int .i64 0) (.int .i64 0) (.slice none 0 0) (.bool false)
         have HRb:=Jh (set7_blk HRa.out (.int .i64 10) (.slice none 0 0) (.int .i64 0) (.int .i64 0) (.int .i64 0) (.slice none 0 0) (.bool false))
         have HCb:=Jh (HCa.out.other hon HRa.out (by decide) (by decide) (by decide) (by decide) (by decide))
         have HSb:=Jh (HSa.out.other hon HRa.out (by decide) (by decide) (by decide))
         have HFb:=Jh (HFa.out.other hon HRa.out (by decide) HGR.out)
         have HKb:=Jh (hon.blk HKa.out (HKa.out.ne_ HRa.out (by decide)))
         have HWb:Hid (∀ (b n:Nat) (A:Option Addr) (c:Nat) (d:List UInt8),w12.ownsRow b 5 1 (.slice A n c) n (d.map byteV)→(set7 w12 gr (.int .i64 10) (.slice none 0 0) (.int .i64 0) (.int .i64 0) (.int .i64 0) (.slice none 0 0) (.bool false)).ownsRow b 5 1 (.slice A n c) n (d.map byteV)):=Jh fun b n A c d h=>own_free h hon HRa.out (by decide)
         unfold set7 at HRb HCb HSb HFb HKb HWb
         clear hon
         go_wp2
         go_meet
         case rel=>exact ⟨_,rfl,10,0,0,none,0,[],M2,V2,mine,rfl,HRb,Jh ⟨0,World.ownsRow_nil _ _ _ _⟩,Jh (Nat.zero_le _),HCb,HSb,HFb,Jh (end_lost HO9.out HEat.out HNF.out (.inl rfl))⟩
        ·have e2:(fate == 2)=false:=eqf f2
         clear f2
         go_wp2
         go_meet
         case rel=>exact ⟨_,rfl,err,ver,born,A8,c8,d8,M2,V2,mine,rfl,HRa,Jh (by obtain ⟨b,h⟩:=HOw.out;exact ⟨b,HWa.out b _ _ _ _ h⟩),HDl,HCa,HSa,HFa,Jh (by rw [HE0.out];exact end_old HO9.out HEat.out HWc.out.1 HWc.out.2)⟩
      case rest =>
       obtain ⟨W8,rfl,err,ver,born,A8,c8,d8,M3,V3,mine3,rfl,HR8,HOw8,HDl8,HC8,HS8,HF8,HEn⟩:=hcut
       clear HR0 HC0 HS0 HF0 HD0 HK0 HEat
       have hz4:=HS8.out.now_
       have HK4:Hid (∀ W,Below W8.heap.size W8 W→(W.cell? ⟨gr,0,none⟩=some (.int .i64 err)∧W.cell? ⟨gr,1,none⟩=some (.slice A8 d8.length c8)∧W.cell? ⟨gr,2,none⟩=some (.int .i64 ver)∧W.cell? ⟨gr,3,none⟩=some (.int .i64 born)∧W.cell? ⟨gr,4,none⟩=some (.int .i64 0)∧W.cell? ⟨gr,5,none⟩=some (.slice none 0 0)∧W.cell? ⟨gr,6,none⟩=some (.bool false))∧W.cell? ⟨gs,4,none⟩=some (.int .i64 now)):=Jh fun W hW=>by
        have h:=HR8.out.below hW HR8.out.lt
        exact ⟨⟨h.cell 0,h.cell 1,h.cell 2,h.cell 3,h.cell 4,h.cell 5,h.cell 6⟩,(HS8.out.below hW).now_.1⟩
       have HW1:Hid (Below W8.heap.size W8 W8.drew):=Jh (below_drewN_ (Below.refl _ _) 1)
       have HCd:=Jh (HC8.out.below HW1.out)
       have HTk:=Jh (takeP_any HGC.out.2 W8.drew (HSh.out _ (HF8.out.on HW1.out).below) HCd.out HO9.out.cin A8 c8 ver (.int .i64 born) (.int .i64 0) (.slice none 0 0) (.bool false) now err d8 (fun w' ho=>by
        obtain ⟨b,h⟩:=HOw8.out
        exact own_bytes (own_free (own_below h HW1.out) ho HCd.out.blk (by decide))) (by obtain ⟨b,h⟩:=HOw8.out;exact own_capn h) (by have:=HDl8.out;omega) HNow.out.1 (by have:=HNow.out.2;omega))
       clear hz4
       go_upto_region 38 with fail
       refine wp_region_T 99 (fun w'=>(w'.cell? ⟨gr,0,none⟩=some (.int .i64 err)∧w'.cell? ⟨gr,1,none⟩=some (.slice A8 d8.length c8)∧w'.cell? ⟨gr,2,none⟩=some (.int .i64 ver)∧w'.cell? ⟨gr,3,none⟩=some (.int .i64 born)∧w'.cell? ⟨gr,4,none⟩=some (.int .i64 0)∧w'.cell? ⟨gr,5,none⟩=some (.slice none 0 0)∧w'.cell? ⟨gr,6,none⟩=some (.bool false))∧w'.cell? ⟨gs,4,none⟩=some (.int .i64 now)) (by kernel_rfl) (HK4.out _ (below_drewN_ (Below.refl _ _) 1)) (fun hHeld=>?_)
       apply tkT 0
       apply tkT 1
       apply tkT 2
       apply tkT 3
       apply tkT 4
       apply tkT 5
       refine wpAnyT_one (i:=6) (by kernel_rfl) rfl (fun K hK=>?_);go_simp
       refine HTk.out.mono ?_
       rintro e wt1 ⟨rfl,⟨pr',pn',hct⟩,hot⟩
       have hcg:=HCd.out.blk
       have hsd:=HS8.out.below HW1.out
       have hrd8:=(HR8.out.below HW1.out HR8.out.lt)
       have hST:=hsd.other hot hcg (by decide) (by decide) (by decide)
       have hRT:=hot.blk hrd8 (hrd8.ne_ hcg (by decide))
       have hSt:(wt1.cell? ⟨gr,0,none⟩=some (.int .i64 err)∧wt1.cell? ⟨gr,1,none⟩=some (.slice A8 d8.length c8)∧wt1.cell? ⟨gr,2,none⟩=some (.int .i64 ver)∧wt1.cell? ⟨gr,3,none⟩=some (.int .i64 born)∧wt1.cell? ⟨gr,4,none⟩=some (.int .i64 0)∧wt1.cell? ⟨gr,5,none⟩=some (.slice none 0 0)∧wt1.cell? ⟨gr,6,none⟩=some (.bool false))∧wt1.cell? ⟨gs,4,none⟩=some (.int .i64 now):=⟨⟨hRT.cell 0,hRT.cell 1,hRT.cell 2,hRT.cell 3,hRT.cell 4,hRT.cell 5,hRT.cell 6⟩,hST.now_.1⟩
       refine hK.out _ _ (fun _=>hSt) ?_
       have HCt:=Jh hct
       have HSt:=Jh hST
       have HFt:=Jh ((HF8.out.on HW1.out).only hot hcg (Nat.le_trans HGC.out.1 HCd.out.low))
       clear hK K hHeld hcg hsd hrd8 hST hRT hct hot hSt HTk HCd HW1 HK4 HC8 HS8 HF8 HR8 HOw8 HDl8
       refine wpAnyT_done (by kernel_rfl) ?_ _
       go_wp2
       go_roundw
       case rel=>exact ⟨k+1,A2,c2,rest2,takeT takeS { s with asked:=true } err d8 ver now,M3,V3,now,made2,mine3,pr',pn',by omega,by go_num,rfl,rfl,rfl,HL2,HG2,HCt,HSt,Jh HEn.out.1,Jh HEn.out.2.1,HMd9,Jh (by have:=HNow.out;push_cast;omega),Jh (fun h0=>by have h1:=HEn.out.2.2 h0;have h2:=HPn.out;show ((k+1:Nat):Int)+(wt _ now+4*(rest2.length:Int)+stage _ V3)≤1000;omega),HFt⟩
       case measure=>simp [intOf];omega
   ·obtain rfl:k=2000:=by omega
    have HNZ:Hid (s.st≠0):=Jh fun h0=>by
     have h1:=HP.out h0
     have h2:=pot_pos (n:=rest.length) (s:=s) (V:=V) (now:=now) (by have:=HO.out.cin.g.fails h0;have:=HO.out.cin.g.tries;omega)
     omega
    go_wp2_with fail
    refine (nowC wr HS.out).mono ?_
    rintro e wd ⟨pz,rfl,hmo,hbd⟩
    obtain ⟨UE,uE,UM,uM,UO,uO⟩:=pz
    have hbe:=hbd.trans ((Below.refl wd.heap.size wd).alloc (Nat.le_refl _) (.cells #[.int .i64 M.gen,.int .i64 M.cut,.int .i64 M.fence,.slice UE M.E.length uE,.slice UM M.M.length uM,.slice UO M.O.length uO] 53) |>.mono hbd.size)
    have HMe:=Jh (hmo.below ((Below.refl wd.heap.size wd).alloc (Nat.le_refl _) (.cells #[.int .i64 M.gen,.int .i64 M.cut,.int .i64 M.fence,.slice UE M.E.length uE,.slice UM M.M.length uM,.slice UO M.O.length uO] 53)))
    have HKe:=Jh (Blk.new wd 53 #[.int .i64 M.gen,.int .i64 M.cut,.int .i64 M.fence,.slice UE M.E.length uE,.slice UM M.M.length uM,.slice UO M.O.length uO])
    have HFe:=Jh (HF.out.on hbe)
    have HCe:=Jh (HC.out.below hbe)
    have HGM:=Jh HS.out.gd.1
    clear hmo hbd hbe HS HF HC
    go_upto_region 41 with fail
    obtain ⟨gz,hgz⟩:∃ gz,gz=wd.heap.size:=⟨_,rfl⟩
    rw [← hgz] at HKe ⊢
    clear hgz
    generalize wd.alloc (.cells #[.int .i64 M.gen,.int .i64 M.cut,.int .i64 M.fence,.slice UE M.E.length uE,.slice UM M.M.length uM,.slice UO M.O.length uO] 53)=we at *
    have y0:we.cell? ⟨gz,0,none⟩=some (.int .i64 M.gen):=HKe.out.cell 0
    have hm9:mine≤1:=by rcases HO.out.mn with ⟨h,_⟩|⟨h,_⟩<;>omega
    have hm0:0≤mine:=by rcases HO.out.mn with ⟨h,_⟩|⟨h,_⟩<;>omega
    have hmd:=HMd.out
    have hmk:=HO.out.md
    have e1:decide ((1:Int)<mine)=false:=dcf (by omega)
    have i1:IntKind.i64.wrap (made+mine)=made+mine:=by rw [IntKind.wrap_i64];omega
    have e2:(M.gen != made+mine)=false:=nef HO.out.gen
    clear hm9 hm0 hmd hmk
    have HSp:=Jh (stateP_calls we HCe.out)
    go_wp2_with fail
    refine HSp.out.mono ?_
    rintro e wf ⟨rfl,hbf⟩
    have HMf:=Jh (HMe.out.below hbf)
    have HKf:=Jh (HKe.out.below hbf HKe.out.lt)
    have HFf:=Jh (HFe.out.on hbf)
    have HCf:=Jh (HCe.out.below hbf)
    clear hbf HSp HMe HKe HFe HCe y0 e1 i1 e2
    have HST:=Jh HO.out.st
    have HMN:=Jh HO.out.mn
    have HGR:=Jh HO.out.cin.g.read
    generalize hst:s.st=st at *
    generalize her:s.er=er at *
    clear hst her
    rcases HST.out with h0|⟨h1,hmi,he0,hdr⟩|⟨h2,hmi,he0⟩|⟨h3,he0⟩
    ·exact absurd h0 HNZ.out
    ·have HDD:Hid (M.O.any (didB x.by_)=true∧s.read.O.any (didB x.by_)=true):=Jh ⟨by
      rcases HMN.out with ⟨h,_⟩|⟨_,h⟩
      ·omega
      ·exact h,hdr⟩
     have q1:(st == 1)=true:=eqt h1
     have q2:(mine == 1)=true:=eqt hmi
     have q3:(er == 0)=true:=eqt he0
     have HK2:Hid (∀ W,Below wf.heap.size wf W→(W.cell? ⟨gz,0,none⟩=some (.int .i64 M.gen)∧W.cell? ⟨gz,1,none⟩=some (.int .i64 M.cut)∧W.cell? ⟨gz,2,none⟩=some (.int .i64 M.fence)∧W.cell? ⟨gz,3,none⟩=some (.slice UE M.E.length uE)∧W.cell? ⟨gz,4,none⟩=some (.slice UM M.M.length uM)∧W.cell? ⟨gz,5,none⟩=some (.slice UO M.O.length uO))∧(W.cell? ⟨gx,5,none⟩=some (.int .i64 x.by_.agent)∧W.cell? ⟨gx,6,none⟩=some (.int .i64 x.by_.life)∧W.cell? ⟨gx,7,none⟩=some (.int .i64 x.by_.count))):=Jh fun W hW=>by
      have h1:=HKf.out.below hW HKf.out.lt
      have h2:=HFf.out.box.below hW HFf.out.box.lt
      exact ⟨⟨h1.cell 0,h1.cell 1,h1.cell 2,h1.cell 3,h1.cell 4,h1.cell 5⟩,h2.cell 5,h2.cell 6,h2.cell 7⟩
     have HDA:Hid (∀ W,Below wf.heap.size wf W→Calls Tryz.prog 25 #[mdV M ⟨UE,uE,UM,uM,UO,uO⟩,owV x.by_] W fun e w'=>e=.returned (.bool true)∧Below W.heap.size W w'):=Jh fun W hW=>by
      refine (didR_of W ((HMf.out.below hW).good HGM.out) (Nat.le_refl _) x.by_).mono ?_
      rintro e w' ⟨rfl,hb⟩
      exact ⟨by rw [HDD.out.1],hb⟩
     have HDB:Hid (∀ W (b:Nat) (pz:Pl),Mow W b s.read pz→Calls Tryz.prog 25 #[mdV s.read pz,owV x.by_] W fun e w'=>e=.returned (.bool true)∧Below W.heap.size W w'):=Jh fun W b pz hmo=>by
      refine (didR_of W (hmo.good HGR.out) (Nat.le_refl _) x.by_).mono ?_
      rintro e w' ⟨rfl,hb⟩
      exact ⟨by rw [HDD.out.2],hb⟩
     have HMn:=Jh fun W (hW:Below wf.heap.size wf W)=>manP_calls W (HCf.out.below hW) HGR.out
     have HW1:Hid (Below wf.heap.size wf wf.drew):=Jh (below_drewN_ (Below.refl _ _) 1)
     clear h1 hmi he0 hdr HST HMN
     go_upto_region 46 with fail
     refine wp_region_T 99 (fun w'=>(w'.cell? ⟨gz,0,none⟩=some (.int .i64 M.gen)∧w'.cell? ⟨gz,1,none⟩=some (.int .i64 M.cut)∧w'.cell? ⟨gz,2,none⟩=some (.int .i64 M.fence)∧w'.cell? ⟨gz,3,none⟩=some (.slice UE M.E.length uE)∧w'.cell? ⟨gz,4,none⟩=some (.slice UM M.M.length uM)∧w'.cell? ⟨gz,5,none⟩=some (.slice UO M.O.length uO))∧(w'.cell? ⟨gx,5,none⟩=some (.int .i64 x.by_.agent)∧w'.cell? ⟨gx,6,none⟩=some (.int .i64 x.by_.life)∧w'.cell? ⟨gx,7,none⟩=some (.int .i64 x.by_.count))) (by kernel_rfl) (HK2.out _ (below_drewN_ (Below.refl _ _) 1)) (fun hHeld=>?_)
     generalize wf.drew=u0 at *
     apply tkT 0
     apply tkT 1
     apply tkT 2
     apply tkT 3
     apply tkT 4
     apply tkT 5
     apply tkT 6
     apply tkT 7
     apply tkT 8
     apply tkT 9
     refine wpAnyT_one (i:=10) (by kernel_rfl) rfl (fun K hK=>?_);go_simp
     refine (HDA.out _ HW1.out).mono ?_
     rintro e wg ⟨rfl,hbg⟩
     have HEF:=Jh (HW1.out.trans (hbg.mono HW1.out.size))
     have hSf:=HK2.out _ HEF.out
     refine hK.out _ _ (fun _=>hSf) ?_
     clear hK K hHeld hbg
     (try simp only [Act.put,Jk,Jg,Ji,Jd,Je,Jf])
     apply tkT 11
     apply tkT 12
     apply tkT 13
     apply tkT 15
     apply tkT 16
     refine wpAnyT_one (i:=14) (by kernel_rfl) rfl (fun K hK=>?_);go_simp
     refine (HMn.out _ HEF.out).mono ?_
     rintro e wh ⟨pz2,rfl,hmo2,hbh⟩
     have HEG:=Jh (HEF.out.trans (hbh.mono HEF.out.size))
     have HM2:=Jh hmo2
     have hSg:=HK2.out _ HEG.out
     refine hK.out _ _ (fun _=>hSg) ?_
     clear hK K hSf hbh hmo2
     (try simp only [Act.put,Jk,Jg,Ji,Jd,Je,Jf])
     refine wpAnyT_one (i:=17) (by kernel_rfl) rfl (fun K hK=>?_);go_simp
     refine (HDB.out _ _ _ HM2.out).mono ?_
     rintro e wi ⟨rfl,hbi⟩
     have HEH:=Jh (HEG.out.trans (hbi.mono HEG.out.size))
     have hSh:=HK2.out _ HEH.out
     refine hK.out _ _ (fun _=>hSh) ?_
     clear hK K hSg hbi
     (try simp only [Act.put,Jk,Jg,Ji,Jd,Je,Jf])
     apply tkT 18
     apply tkT 19
     refine wpAnyT_done (by kernel_rfl) ?_ _
     have HFh:=Jh (HFf.out.on HEH.out)
     clear hSh HK2 HDA HDB HMn q1 q2 q3
     go_wp2
     go_ret
     exact ⟨rfl,HFh.out.below⟩
    ·have q1:(st == 1)=false:=eqf (by omega)
     have q2:(st == 2)=true:=eqt h2
     have q3:(mine == 0)=true:=eqt hmi
     have q4:(er != 0)=true:=net he0
     clear h2 hmi he0
     go_wp2
     go_ret
     exact ⟨rfl,HFf.out.below⟩
    ·have q1:(st == 1)=false:=eqf (by omega)
     have q2:(st == 2)=false:=eqf (by omega)
     have q3:(st == 3)=true:=eqt h3
     have q4:(er == 15)=true:=eqt he0
     clear h3 he0
     go_wp2
     go_ret
     exact ⟨rfl,HFf.out.below⟩
theorem walk {H:Type} {enc:TypeId × Value→H} {W:World} {base:Nat} {v0 v1 v2 v3:Value} {d0 d1 d2 d3:DataW H} {p0 p1 p2 p3:List MemPlace} (hsh:W.ShapedOpen Tryz.prog) (g0:Arg enc Tryz.prog W base 28 v0 d0 p0) (g1:Arg enc Tryz.prog W base 3 v1 d1 p1) (g2:Arg enc Tryz.prog W base 3 v2 d2 p2) (g3:Arg enc Tryz.prog W base 65 v3 d3 p3) :
  Calls Tryz.prog 5 #[v0,v1,v2,v3] W fun e w'=>e=.returned (.bool true)∧Below W.heap.size W w':=by
 obtain ⟨x,q,rfl,hE⟩:=arg_edit g0
 obtain ⟨tries,rfl,-,_⟩:=g1.int Tryz.underlying3
 obtain ⟨wait,rfl,-,_⟩:=g2.int Tryz.underlying3
 obtain ⟨A,c,l,rfl,hL⟩:=arg_oths g3
 exact body W hE hL (Nat.le_refl _) tries wait (var0 hsh)
end Go.Proofs.YtibnehaibgbliaaGreat.lawCommitOnce
