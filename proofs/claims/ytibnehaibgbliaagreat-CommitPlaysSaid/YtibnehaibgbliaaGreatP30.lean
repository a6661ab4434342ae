/- Laws for the row's walk. -/
import Derived.Test.YtibnehaibgbliaaGreatP29
set_option linter.unusedVariables false
set_option linter.unusedSimpArgs false
open Go.Lib renaming hid → Jh
open List renaming getElem?_toArray → Ja, getElem?_cons_zero → Jb, getElem?_cons_succ → Jc, setIfInBounds_toArray → Jd, set_cons_zero → Je, set_cons_succ → Jf
namespace Go.Proofs.YtibnehaibgbliaaGreat.lawCommitPlays
open Go.RowKit Go.Proofs.YtibnehaibgbliaaGreat Go.Proofs.YtibnehaibgbliaaGreat.Mf
theorem tick_in (now t:Int) (h:0≤now∧now≤100000):∃ n2,wrap64 (now+wrap64 ((IntKind.u64.wrap t).tmod 100))=n2∧now≤n2∧n2≤now+99:=by
 have hu:IntKind.u64.wrap t=t%18446744073709551616:=by simp [IntKind.wrap,IntKind.bits,IntKind.signed]
 have h1:0≤IntKind.u64.wrap t:=by rw [hu];omega
 rw [Int.tmod_eq_emod_of_nonneg h1]
 generalize IntKind.u64.wrap t=u at *
 refine ⟨now+u%100,?_,by omega,by omega⟩
 unfold wrap64
 omega
set_option maxRecDepth 100000 in
set_option maxHeartbeats 12800000 in
theorem body (w:World) {B:Nat} {x:Ed} {q:Pd} (hE:Edi w B x q) {A:Option Addr} {c:Nat} {l:List Ac} (hL:Acts w B A l) (hB:B≤w.heap.size) (tries wait:Int) (hm:Sh w) :
  Calls Tryz.prog 4 #[edV x q,.int .i64 tries,.int .i64 wait,.slice A l.length c] w fun e w'=>e=.returned (.bool true)∧Below w.heap.size w w':=by
 have HE:=Jh hE
 have HL:=Jh hL
 have HSh:=Jh fun W (hW:Below w.heap.size w W)=>hm.below hW hm.lt
 clear hE hL hm
 have hbk:=Blk.new w 28 #[.slice q.AA x.add.length q.cA,.slice q.AD x.drop.length q.cD,.slice q.AM x.marks.length q.cM,.int .i64 x.cut,.int .i64 x.fence,.int .i64 x.by_.agent,.int .i64 x.by_.life,.int .i64 x.by_.count]
 have HBx:=Jh hbk
 have HB0:Hid (Below w.heap.size w (w.alloc (.cells #[.slice q.AA x.add.length q.cA,.slice q.AD x.drop.length q.cD,.slice q.AM x.marks.length q.cM,.int .i64 x.cut,.int .i64 x.fence,.int .i64 x.by_.agent,.int .i64 x.by_.life,.int .i64 x.by_.count] 28))):=Jh ((Below.refl _ _).alloc (Nat.le_refl _) _)
 clear hbk
 go_enter Tryz.func4,Tryz.ntmps4
 go_wp2_with fail
 refine (qdc _).mono ?_
 rintro e w1 ⟨rfl,hb1⟩
 have hbk1:=HBx.out.below hb1 HBx.out.lt
 have hb01:=HB0.out.trans (hb1.mono HB0.out.size)
 have HBx1:=Jh hbk1
 have HB1:=Jh hb01
 have z0:=hbk1.cell 0
 have z1:=hbk1.cell 1
 have z2:=hbk1.cell 2
 have z3:=hbk1.cell 3
 have z4:=hbk1.cell 4
 have z5:=hbk1.cell 5
 have z6:=hbk1.cell 6
 have z7:=hbk1.cell 7
 simp only [Ja,Jb,Jc] at z0 z1 z2 z3 z4 z5 z6 z7
 have HF:=Jh (cfew_calls w1 (HE.out.below (hb01.mono hB)) (by have:=hb01.size;omega))
 clear hbk1 hb01 hb1
 go_wp2_with fail
 refine HF.out.mono ?_
 rintro e w2 ⟨b,rfl,hfew,hb2⟩
 have HB2:Hid (Below w.heap.size w w2):=Jh (HB1.out.trans (hb2.mono HB1.out.size))
 have HBx2:=Jh (HBx1.out.below hb2 HBx1.out.lt)
 clear HF hb2 z0 z1 z2 z3 z4 z5 z6 z7 HBx HB0
 cases b
 ·go_wp2_with fail
  refine (qdc w2).mono ?_
  rintro e w3 ⟨rfl,hb3⟩
  have HB3:Hid (Below w.heap.size w w3):=Jh (HB2.out.trans (hb3.mono HB2.out.size))
  clear hb3
  go_wp2
  go_ret
  exact ⟨rfl,HB3.out⟩
 have HGe:=Jh (hfew rfl)
 clear hfew
 by_cases h60:60<l.length
 ·have t1:decide ((60:Int)<(l.length:Int))=true:=dct (by omega)
  clear h60
  go_wp2_with fail
  refine (qdc w2).mono ?_
  rintro e w3 ⟨rfl,hb3⟩
  have HB3:Hid (Below w.heap.size w w3):=Jh (HB2.out.trans (hb3.mono HB2.out.size))
  clear hb3
  go_wp2
  go_ret
  exact ⟨rfl,HB3.out⟩
 have t1:decide ((60:Int)<(l.length:Int))=false:=dcf (by omega)
 have H60:Hid (l.length≤60):=Jh (by omega)
 clear h60
 have z0:=HBx2.out.cell 0
 have z1:=HBx2.out.cell 1
 have z2:=HBx2.out.cell 2
 have z3:=HBx2.out.cell 3
 have z4:=HBx2.out.cell 4
 have z5:=HBx2.out.cell 5
 have z6:=HBx2.out.cell 6
 have z7:=HBx2.out.cell 7
 simp only [Ja,Jb,Jc] at z0 z1 z2 z3 z4 z5 z6 z7
 have HE2:=Jh (HE.out.below (HB2.out.mono hB))
 by_cases hbad:tries<1∨8<tries∨wait<0∨1099511627776<wait
 ·have HN:=Jh (new_bad w2 (x:=x) (q:=q) tries wait hbad)
  have HM:=Jh fun W=>newR_bad W (x:=x) (q:=q) tries wait hbad
  clear hbad
  go_wp2_with fail
  refine HN.out.mono ?_
  rintro e w3 ⟨rfl,hb3⟩
  have HB3:Hid (Below w.heap.size w w3):=Jh (HB2.out.trans (hb3.mono HB2.out.size))
  have HBx3:=Jh (HBx2.out.below hb3 HBx2.out.lt)
  clear hb3 HN z0 z1 z2 z3 z4 z5 z6 z7
  have z0:=HBx3.out.cell 0
  have z1:=HBx3.out.cell 1
  have z2:=HBx3.out.cell 2
  have z3:=HBx3.out.cell 3
  have z4:=HBx3.out.cell 4
  have z5:=HBx3.out.cell 5
  have z6:=HBx3.out.cell 6
  have z7:=HBx3.out.cell 7
  simp only [Ja,Jb,Jc] at z0 z1 z2 z3 z4 z5 z6 z7
  go_wp2_with fail
  refine (HM.out w3).mono ?_
  rintro e w4 ⟨rfl,hb4⟩
  have HB4:Hid (Below w.heap.size w w4):=Jh (HB3.out.trans (hb4.mono HB3.out.size))
  clear hb4 HM z0 z1 z2 z3 z4 z5 z6 z7
  go_wp2_with fail
  refine (next_nil w4 0).mono ?_
  rintro e w5 ⟨rfl,hb5⟩
  have HB5:Hid (Below w.heap.size w (w5.alloc (.cells qap 35))):=Jh ((HB4.out.trans (hb5.mono HB4.out.size)).alloc (by have:=HB4.out.size;have:=hb5.size;omega) _)
  clear hb5
  go_wp2_with fail
  refine (state_nil _).mono ?_
  rintro e w6 ⟨rfl,hb6⟩
  have HB6:Hid (Below w.heap.size w w6):=Jh (HB5.out.trans (hb6.mono HB5.out.size))
  clear hb6
  go_wp2_with fail
  refine (take_nil w6 _ _ _ _ _ _ _ _).mono ?_
  rintro e w7 ⟨rfl,hb7⟩
  have HB7:Hid (Below w.heap.size w w7):=Jh (HB6.out.trans (hb7.mono HB6.out.size))
  clear hb7
  go_wp2_with fail
  refine (man_nil w7).mono ?_
  rintro e w8 ⟨rfl,hb8⟩
  have HB8:Hid (Below w.heap.size w w8):=Jh (HB7.out.trans (hb8.mono HB7.out.size))
  clear hb8
  go_wp2_with fail
  refine (sameM_calls w8 ((Mow.zero w8 0).good Gd.zero) ((Mow.zero w8 0).good Gd.zero) (Nat.le_refl _) (Nat.le_refl _)).mono ?_
  rintro e w9 ⟨rfl,hb9⟩
  rw [same_self]
  have HB9:Hid (Below w.heap.size w w9):=Jh (HB8.out.trans (hb9.mono HB8.out.size))
  clear hb9
  go_wp2
  go_ret
  exact ⟨rfl,HB9.out⟩
 have ht1:1≤tries:=by omega
 have ht8:tries≤8:=by omega
 have hw0:0≤wait:=by omega
 have hw9:wait≤1099511627776:=by omega
 have HN:=Jh (newP_calls w2 HE2.out (by have:=HB2.out.size;omega) HGe.out tries wait ht1 ht8 hw0 hw9)
 have HCin:Hid (Cin (newS x tries wait)):=Jh ⟨⟨HGe.out,Gd.zero,Gd.zero,⟨ht1,ht8⟩,⟨hw0,hw9⟩,fun _=>(by show ((0:Nat):Int)<tries;omega),fun h=>(by cases h),fun _=>rfl⟩,fun h=>(by cases h)⟩
 clear hbad HBx1 HB1
 go_wp2_with fail
 refine HN.out.mono ?_
 rintro e w3 ⟨gc,qc,rfl,hc3,hb3⟩
 have HB3:Hid (Below w.heap.size w w3):=Jh (HB2.out.trans (hb3.mono HB2.out.size))
 have HBx3:=Jh (HBx2.out.below hb3 HBx2.out.lt)
 have HC3:=Jh hc3
 obtain ⟨bc,hbc⟩:∃ bc,bc=w2.heap.size:=⟨_,rfl⟩
 rw [← hbc] at HC3
 have HBC:Hid (w.heap.size≤bc∧0<bc):=Jh ⟨by have:=HB2.out.size;omega,by have:=HBx2.out.lt;omega⟩
 have HE3:=Jh (HE2.out.below (hb3.mono (show B≤w2.heap.size by have:=HB2.out.size;omega)))
 clear hc3 hb3 HN HE2 hbc z0 z1 z2 z3 z4 z5 z6 z7 HBx2
 have HM:=Jh (newR_calls w3 HE3.out (by have:=HB3.out.size;omega) HGe.out tries wait ht1 ht8 hw0 hw9)
 have z0:=HBx3.out.cell 0
 have z1:=HBx3.out.cell 1
 have z2:=HBx3.out.cell 2
 have z3:=HBx3.out.cell 3
 have z4:=HBx3.out.cell 4
 have z5:=HBx3.out.cell 5
 have z6:=HBx3.out.cell 6
 have z7:=HBx3.out.cell 7
 simp only [Ja,Jb,Jc] at z0 z1 z2 z3 z4 z5 z6 z7
 go_wp2_with fail
 refine HM.out.mono ?_
 rintro e w4 ⟨gd,qd,rfl,hd4,hb4⟩
 have HB4:Hid (Below w.heap.size w w4):=Jh (HB3.out.trans (hb4.mono HB3.out.size))
 have HC4:=Jh (HC3.out.below hb4)
 have HD4:=Jh hd4
 obtain ⟨bd,hbd⟩:∃ bd,bd=w3.heap.size:=⟨_,rfl⟩
 rw [← hbd] at HD4
 have HBD:Hid (w.heap.size≤bd∧0<bd):=Jh ⟨by have:=HB3.out.size;omega,by have:=HBx3.out.lt;omega⟩
 clear hd4 hb4 HM HE3 hbd z0 z1 z2 z3 z4 z5 z6 z7 HBx3 HB3 HC3
 go_wp2
 go_loopw [16,90] (fun vn vi wr=>∃ (i:Nat) (now:Int) (s t:Cst) (pr pn pr' pn':Pl),i≤l.length∧vi=.int .i64 (i:Int)∧vn=.int .i64 now∧Hid (0≤now∧now≤100*(i:Int))∧Hid (CmAt wr bc gc s qc pr pn)∧Hid (DmAt wr bd gd t qd pr' pn')∧Hid (Cin s)∧Hid (Sim s t)∧Hid (Below w.heap.size w wr)) (fun _ vi _=>l.length-(intOf vi).toNat)
 case atStart=>exact ⟨0,0,newS x tries wait,newS x tries wait,nilP,nilP,nilP,nilP,Nat.zero_le _,rfl,rfl,Jh (by omega),HC4,HD4,HCin,Jh (Sim.refl _),HB4⟩
 case round =>
  clear HC4 HD4 HCin HB4 HB2 HE
  obtain ⟨i,now,s,t,pr,pn,pr',pn',hi,rfl,rfl,HNow,HC,HD,HI,HS,HB⟩:=hrel
  by_cases hlt:i<l.length
  ·have hr:=(HL.out.below (HB.out.mono hB)).rd
   obtain ⟨b,off,hA,hbB,hcell⟩:=row_at acs_len hr (by omega)
   have hci:=hcell i hlt
   have HOk:=Jh ((HL.out.below (HB.out.mono hB)).ok _ (qax hlt))
   generalize gt l i=a at *
   have p0:=hci 0 _ rfl
   have p1:=hci 1 _ rfl
   have p2:=hci 2 _ rfl
   have p3:=hci 3 _ rfl
   have p4:=hci 4 _ rfl
   have p5:=hci 5 _ rfl
   have p6:=hci 6 _ rfl
   have p7:=hci 7 _ rfl
   have p8:=hci 8 _ rfl
   have p9:=hci 9 _ rfl
   have p10:=hci 10 _ rfl
   have p11:=hci 11 _ rfl
   have p12:=hci 12 _ rfl
   have p13:=hci 13 _ rfl
   have p14:=hci 14 _ rfl
   have p15:=hci 15 _ rfl
   rw [Nat.add_zero] at p0
   clear hcell hci hr
   rw [hA]
   have hi0:(0:Int)≤(i:Int):=by omega
   have hi1:(i:Int)<(l.length:Int):=by omega
   obtain ⟨now2,hn2,hn3,hn4⟩:=tick_in now a.tick (by have:=HNow.out;have:=H60.out;omega)
   have HNow2:Hid (0≤now2∧now2≤100*((i+1:Nat):Int)):=Jh (by have:=HNow.out;omega)
   have HNow9:Hid (0≤now2∧now2≤1099511627776):=Jh (by have:=HNow.out;have:=H60.out;omega)
   go_upto_region 16 with fail
   rw [hn2]
   have hszr:=HB.out.size
   have HBa:Hid (Below w.heap.size w (wr.alloc (.cells #[.int .i64 a.tick,.bool a.ask,.bool a.put,.int .i64 a.err,.slice a.A a.data.length a.c,.int .i64 a.ver,.int .i64 a.born,.int .i64 a.id,.slice a.LA a.ln a.lc,.bool a.more,.int .i64 a.m.gen,.int .i64 a.m.cut,.int .i64 a.m.fence,.slice a.p.AE a.m.E.length a.p.cE,.slice a.p.AM a.m.M.length a.p.cM,.slice a.p.AO a.m.O.length a.p.cO] 56))):=Jh (HB.out.alloc hszr _)
   have HBka:=Jh (Blk.new wr 56 #[.int .i64 a.tick,.bool a.ask,.bool a.put,.int .i64 a.err,.slice a.A a.data.length a.c,.int .i64 a.ver,.int .i64 a.born,.int .i64 a.id,.slice a.LA a.ln a.lc,.bool a.more,.int .i64 a.m.gen,.int .i64 a.m.cut,.int .i64 a.m.fence,.slice a.p.AE a.m.E.length a.p.cE,.slice a.p.AM a.m.M.length a.p.cM,.slice a.p.AO a.m.O.length a.p.cO])
   have hba:=(Below.refl wr.heap.size wr).alloc (Nat.le_refl _) (.cells #[.int .i64 a.tick,.bool a.ask,.bool a.put,.int .i64 a.err,.slice a.A a.data.length a.c,.int .i64 a.ver,.int .i64 a.born,.int .i64 a.id,.slice a.LA a.ln a.lc,.bool a.more,.int .i64 a.m.gen,.int .i64 a.m.cut,.int .i64 a.m.fence,.slice a.p.AE a.m.E.length a.p.cE,.slice a.p.AM a.m.M.length a.p.cM,.slice a.p.AO a.m.O.length a.p.cO] 56)
   have HCa:=Jh (HC.out.below hba)
   have HDa:=Jh (HD.out.below hba)
   have HOa:=Jh (HOk.out.below ((hba.mono hszr).mono hB))
   obtain ⟨ga,hga⟩:∃ ga,ga=wr.heap.size:=⟨_,rfl⟩
   have HGA:Hid (w.heap.size≤ga∧B≤ga):=Jh ⟨by omega,by omega⟩
   rw [← hga] at HBka ⊢
   clear hba hga hszr hn2 hn3 hn4 HNow HOk HC HD HB p0 p1 p2 p3 p4 p5 p6 p7 p8 p9 p10 p11 p12 p13 p14 p15
   generalize wr.alloc (.cells #[.int .i64 a.tick,.bool a.ask,.bool a.put,.int .i64 a.err,.slice a.A a.data.length a.c,.int .i64 a.ver,.int .i64 a.born,.int .i64 a.id,.slice a.LA a.ln a.lc,.bool a.more,.int .i64 a.m.gen,.int .i64 a.m.cut,.int .i64 a.m.fence,.slice a.p.AE a.m.E.length a.p.cE,.slice a.p.AM a.m.M.length a.p.cM,.slice a.p.AO a.m.O.length a.p.cO] 56)=wa at *
   have y1:wa.cell? ⟨ga,1,none⟩=some (.bool a.ask):=HBka.out.cell 1
   go_upto_if 102 with fail
   go_cut [16] (fun v wx=>∃ W9:World,W9=wx∧∃ (s' t':Cst) (qr qn qr' qn':Pl),v=.int .i64 now2∧Hid (CmAt W9 bc gc s' qc qr qn)∧Hid (DmAt W9 bd gd t' qd qr' qn')∧Hid (Cin s')∧Hid (Sim s' t')∧Hid (Below w.heap.size w W9))
   case first =>
    generalize a.ask=ask at *
    cases ask
    case false =>
     have y3:wa.cell? ⟨ga,3,none⟩=some (.int .i64 a.err):=HBka.out.cell 3
     have y4:wa.cell? ⟨ga,4,none⟩=some (.slice a.A a.data.length a.c):=HBka.out.cell 4
     have y5:wa.cell? ⟨ga,5,none⟩=some (.int .i64 a.ver):=HBka.out.cell 5
     have y6:wa.cell? ⟨ga,6,none⟩=some (.int .i64 a.born):=HBka.out.cell 6
     have y7:wa.cell? ⟨ga,7,none⟩=some (.int .i64 a.id):=HBka.out.cell 7
     have y8:wa.cell? ⟨ga,8,none⟩=some (.slice a.LA a.ln a.lc):=HBka.out.cell 8
     have y9:wa.cell? ⟨ga,9,none⟩=some (.bool a.more):=HBka.out.cell 9
     have HBr:=Jh (Blk.new wa 42 (repA a.err a.A a.data.length a.c a.ver (.int .i64 a.born) (.int .i64 a.id) (.slice a.LA a.ln a.lc) (.bool a.more)))
     have hbr:=(Below.refl wa.heap.size wa).alloc (Nat.le_refl _) (.cells (repA a.err a.A a.data.length a.c a.ver (.int .i64 a.born) (.int .i64 a.id) (.slice a.LA a.ln a.lc) (.bool a.more)) 42)
     have HCb:=Jh (HCa.out.below hbr)
     have HDb:=Jh (HDa.out.below hbr)
     have HBb:=Jh (HBa.out.alloc HBa.out.size (.cells (repA a.err a.A a.data.length a.c a.ver (.int .i64 a.born) (.int .i64 a.id) (.slice a.LA a.ln a.lc) (.bool a.more)) 42))
     have HOb:=Jh (HOa.out.below (hbr.mono (Nat.le_trans HGA.out.2 (Nat.le_of_lt HBka.out.lt))))
     have HKb:=Jh (HBka.out.below hbr HBka.out.lt)
     have HBka0:=HBka.out.lt
     clear hbr y1 HCa HDa HBa HOa HBka
     go_upto_region 22 with fail
     obtain ⟨gr,hgr⟩:∃ gr,gr=wa.heap.size:=⟨_,rfl⟩
     have HGR:Hid (ga<gr):=Jh (by rw [hgr];exact HBka0)
     rw [← hgr] at HBr ⊢
     clear hgr y3 y4 y5 y6 y7 y8 y9
     generalize wa.alloc (.cells (repA a.err a.A a.data.length a.c a.ver (.int .i64 a.born) (.int .i64 a.id) (.slice a.LA a.ln a.lc) (.bool a.more)) 42)=wb at *
     have y2:wb.cell? ⟨ga,2,none⟩=some (.bool a.put):=HKb.out.cell 2
     have y10:wb.cell? ⟨ga,10,none⟩=some (.int .i64 a.m.gen):=HKb.out.cell 10
     have y11:wb.cell? ⟨ga,11,none⟩=some (.int .i64 a.m.cut):=HKb.out.cell 11
     have y12:wb.cell? ⟨ga,12,none⟩=some (.int .i64 a.m.fence):=HKb.out.cell 12
     have y13:wb.cell? ⟨ga,13,none⟩=some (.slice a.p.AE a.m.E.length a.p.cE):=HKb.out.cell 13
     have y14:wb.cell? ⟨ga,14,none⟩=some (.slice a.p.AM a.m.M.length a.p.cM):=HKb.out.cell 14
     have y15:wb.cell? ⟨ga,15,none⟩=some (.slice a.p.AO a.m.O.length a.p.cO):=HKb.out.cell 15
     have HDz:Hid (Dz wb B a.A a.c a.data):=Jh ⟨Nat.le_trans HGA.out.2 (Nat.le_of_lt HKb.out.lt),HOb.out.cap,.inl HOb.out.bytes⟩
     generalize a.put=put at *
     cases put
     ·go_upto_region 24 with fail
      have x1:wb.cell? ⟨gr,1,none⟩=some (.slice a.A a.data.length a.c):=HBr.out.cell 1
      by_cases h20:20000<(a.data.length:Int)
      ·have e20:decide ((20000:Int)<(a.data.length:Int))=true:=dct h20
       clear h20
       go_wp2
       go_ret
       exact ⟨rfl,HBb.out⟩
      have e20:decide ((20000:Int)<(a.data.length:Int))=false:=dcf h20
      have h1m:a.data.length≤1000000:=by omega
      clear h20
      go_upto_region 26 with fail
      have HS7:Hid (∀ W,Blk W gr 42 (repA a.err a.A a.data.length a.c a.ver (.int .i64 a.born) (.int .i64 a.id) (.slice a.LA a.ln a.lc) (.bool a.more))→(W.cell? ⟨gr,0,none⟩=some (.int .i64 a.err)∧W.cell? ⟨gr,1,none⟩=some (.slice a.A a.data.length a.c)∧W.cell? ⟨gr,2,none⟩=some (.int .i64 a.ver)∧W.cell? ⟨gr,3,none⟩=some (.int .i64 a.born)∧W.cell? ⟨gr,4,none⟩=some (.int .i64 a.id)∧W.cell? ⟨gr,5,none⟩=some (.slice a.LA a.ln a.lc)∧W.cell? ⟨gr,6,none⟩=some (.bool a.more))):=Jh fun W h=>⟨h.cell 0,h.cell 1,h.cell 2,h.cell 3,h.cell 4,h.cell 5,h.cell 6⟩
      obtain ⟨rv,hrv⟩:∃ rv:Int,rv=(if s.asked=true then 0 else 1):=⟨_,rfl⟩
      obtain ⟨sa,hsa⟩:∃ sa:Bool,sa=s.asked:=⟨_,rfl⟩
      have hgc:B≤gc:=by have:=HBC.out.1;have:=HCb.out.low;omega
      have hgd:B≤gd:=by have:=HBD.out.1;have:=HDb.out.low;omega
      have HT1:Hid (∀ W,Below wb.heap.size wb W→Calls Tryz.prog 11 #[.pointer (some ⟨gc,0,none⟩),.agg (repA a.err a.A a.data.length a.c a.ver (.int .i64 a.born) (.int .i64 a.id) (.slice a.LA a.ln a.lc) (.bool a.more)),.int .i64 now2] W (RetTk (fun w' s'=>∃ pr pn,CmAt w' bc gc s' qc pr pn) W gc (takeT takeS s a.err a.data a.ver now2) (.int .i64 rv))):=Jh fun W hW=>by
       rw [hrv]
       exact qea HBC.out.2 W (HSh.out _ (HBb.out.trans (hW.mono HBb.out.size))) (HCb.out.below hW) HI.out a.A a.c a.ver _ _ _ _ now2 a.err a.data (fun w' ho=>((HDz.out.below hW).only ho (HCb.out.below hW).blk (by decide) hgc).bytes) HDz.out.2.1 h1m HNow9.out.1 HNow9.out.2
      have HT2:Hid (∀ W,Only gc wb W→Calls Tryz.prog 20 #[.pointer (some ⟨gd,0,none⟩),.agg (repA a.err a.A a.data.length a.c a.ver (.int .i64 a.born) (.int .i64 a.id) (.slice a.LA a.ln a.lc) (.bool a.more)),.int .i64 now2] W (RetTk (fun w' s'=>∃ pr pn,DmAt w' bd gd s' qd pr pn) W gd (takeT takeD t a.err a.data a.ver now2) (.bool sa))):=Jh fun W ho=>by
       rw [hsa,← HS.out.facts.2.2.1]
       have hdw:=HDb.out.other ho HCb.out.blk (by decide) (by decide) (by decide) (by decide) (by decide)
       exact qeb W hdw (HS.out.cin HI.out) a.A a.c a.ver _ _ _ _ now2 a.err a.data (fun w' ho'=>((HDz.out.only ho HCb.out.blk (by decide) hgc).only ho' hdw.blk (by decide) hgd).bytes) HDz.out.2.1 h1m HNow9.out.1 HNow9.out.2
      have hq:(!((rv == 0) == sa))=false:=by rw [hrv,hsa];cases s.asked<;>rfl
      have HTS:=Jh (qec HI.out HS.out a.err a.data a.ver now2)
      have HW0:Hid (Blk wb.drew gr 42 (repA a.err a.A a.data.length a.c a.ver (.int .i64 a.born) (.int .i64 a.id) (.slice a.LA a.ln a.lc) (.bool a.more))):=Jh (HBr.out.below (qaa (Below.refl _ _) 1) HBr.out.lt)
      have HW1:Hid (Below wb.heap.size wb wb.drew):=Jh (qaa (Below.refl _ _) 1)
      clear hrv hsa hgc hgd x1 e20 h1m
      go_region_held3 (fun w'=>w'.cell? ⟨gr,0,none⟩=some (.int .i64 a.err)∧w'.cell? ⟨gr,1,none⟩=some (.slice a.A a.data.length a.c)∧w'.cell? ⟨gr,2,none⟩=some (.int .i64 a.ver)∧w'.cell? ⟨gr,3,none⟩=some (.int .i64 a.born)∧w'.cell? ⟨gr,4,none⟩=some (.int .i64 a.id)∧w'.cell? ⟨gr,5,none⟩=some (.slice a.LA a.ln a.lc)∧w'.cell? ⟨gr,6,none⟩=some (.bool a.more)) (exact HS7.out _ (by first|assumption|exact HW0.out)) (first|(go_at_call 11;refine (HT1.out _ HW1.out).mono ?_;rintro e wm ⟨rfl,⟨rr,rn,hcm⟩,hom⟩;have how:Only gc wb wm:=(Only.of_below HW1.out).trans hom;have hbm:Blk wm gr 42 (repA a.err a.A a.data.length a.c a.ver (.int .i64 a.born) (.int .i64 a.id) (.slice a.LA a.ln a.lc) (.bool a.more)):=how.blk HBr.out (HBr.out.ne_ HCb.out.blk (by decide)))|(go_at_call 20;refine (HT2.out _ how).mono ?_;rintro e wn ⟨rfl,⟨rr',rn',hdn⟩,hon⟩;have hbn:Blk wn gr 42 (repA a.err a.A a.data.length a.c a.ver (.int .i64 a.born) (.int .i64 a.id) (.slice a.LA a.ln a.lc) (.bool a.more)):=hon.blk hbm (hbm.ne_ (HDb.out.other how HCb.out.blk (by decide) (by decide) (by decide) (by decide) (by decide)).blk (by decide))))
      have HCn:=Jh (CmAt.other hcm hon (HDb.out.other how HCb.out.blk (by decide) (by decide) (by decide) (by decide) (by decide)).blk (by decide) (by decide) (by decide) (by decide) (by decide))
      have HDn:=Jh hdn
      have HBm:Below w.heap.size w wm:=HBb.out.trans (how.below (Nat.le_trans HBC.out.1 HCb.out.low) HBb.out.size)
      have HBn:=Jh (HBm.trans (hon.below (Nat.le_trans HBD.out.1 HDb.out.low) HBm.size))
      clear hcm hom how hbm hdn hon hbn HBm
      go_wp2
      go_meet
      case rel=>exact ⟨_,rfl,_,_,_,_,_,_,rfl,HCn,HDn,Jh HTS.out.2,Jh HTS.out.1,HBn⟩
     by_cases h60:(a.m.E.length:Int)≤60
     ·have e60:decide ((a.m.E.length:Int)≤60)=true:=dct h60
      clear h60
      have HRt:=Jh (rightR_any wb HOb.out.man (Nat.le_trans HGA.out.2 (Nat.le_of_lt HKb.out.lt)))
      go_wp2_with fail
      refine HRt.out.mono ?_
      rintro e wc ⟨rfl,hbc⟩
      have HBr2:=Jh (HBr.out.below hbc HBr.out.lt)
      have HKb2:=Jh (HKb.out.below hbc HKb.out.lt)
      have HDz2:=Jh (HDz.out.below hbc)
      have HCb2:=Jh (HCb.out.below hbc)
      have HDb2:=Jh (HDb.out.below hbc)
      have HBb2:=Jh (HBb.out.trans (hbc.mono HBb.out.size))
      have HOb2:=Jh (HOb.out.below (hbc.mono HDz.out.1))
      clear hbc HRt y2 y10 y11 y12 y13 y14 y15 HBr HKb HDz HCb HDb HBb HOb
      cases hrb:qar a.m
      ·clear hrb
       go_upto_region 24 with fail
       have x1:wc.cell? ⟨gr,1,none⟩=some (.slice a.A a.data.length a.c):=HBr2.out.cell 1
       by_cases h20:20000<(a.data.length:Int)
       ·have e20:decide ((20000:Int)<(a.data.length:Int))=true:=dct h20
        clear h20
        go_wp2
        go_ret
        exact ⟨rfl,HBb2.out⟩
       have e20:decide ((20000:Int)<(a.data.length:Int))=false:=dcf h20
       have h1m:a.data.length≤1000000:=by omega
       clear h20
       go_upto_region 26 with fail
       have HS7:Hid (∀ W,Blk W gr 42 (repA a.err a.A a.data.length a.c a.ver (.int .i64 a.born) (.int .i64 a.id) (.slice a.LA a.ln a.lc) (.bool a.more))→(W.cell? ⟨gr,0,none⟩=some (.int .i64 a.err)∧W.cell? ⟨gr,1,none⟩=some (.slice a.A a.data.length a.c)∧W.cell? ⟨gr,2,none⟩=some (.int .i64 a.ver)∧W.cell? ⟨gr,3,none⟩=some (.int .i64 a.born)∧W.cell? ⟨gr,4,none⟩=some (.int .i64 a.id)∧W.cell? ⟨gr,5,none⟩=some (.slice a.LA a.ln a.lc)∧W.cell? ⟨gr,6,none⟩=some (.bool a.more))):=Jh fun W h=>⟨h.cell 0,h.cell 1,h.cell 2,h.cell 3,h.cell 4,h.cell 5,h.cell 6⟩
       obtain ⟨rv,hrv⟩:∃ rv:Int,rv=(if s.asked=true then 0 else 1):=⟨_,rfl⟩
       obtain ⟨sa,hsa⟩:∃ sa:Bool,sa=s.asked:=⟨_,rfl⟩
       have hgc:B≤gc:=by have:=HBC.out.1;have:=HCb2.out.low;omega
       have hgd:B≤gd:=by have:=HBD.out.1;have:=HDb2.out.low;omega
       have HT1:Hid (∀ W,Below wc.heap.size wc W→Calls Tryz.prog 11 #[.pointer (some ⟨gc,0,none⟩),.agg (repA a.err a.A a.data.length a.c a.ver (.int .i64 a.born) (.int .i64 a.id) (.slice a.LA a.ln a.lc) (.bool a.more)),.int .i64 now2] W (RetTk (fun w' s'=>∃ pr pn,CmAt w' bc gc s' qc pr pn) W gc (takeT takeS s a.err a.data a.ver now2) (.int .i64 rv))):=Jh fun W hW=>by
        rw [hrv]
        exact qea HBC.out.2 W (HSh.out _ (HBb2.out.trans (hW.mono HBb2.out.size))) (HCb2.out.below hW) HI.out a.A a.c a.ver _ _ _ _ now2 a.err a.data (fun w' ho=>((HDz2.out.below hW).only ho (HCb2.out.below hW).blk (by decide) hgc).bytes) HDz2.out.2.1 h1m HNow9.out.1 HNow9.out.2
       have HT2:Hid (∀ W,Only gc wc W→Calls Tryz.prog 20 #[.pointer (some ⟨gd,0,none⟩),.agg (repA a.err a.A a.data.length a.c a.ver (.int .i64 a.born) (.int .i64 a.id) (.slice a.LA a.ln a.lc) (.bool a.more)),.int .i64 now2] W (RetTk (fun w' s'=>∃ pr pn,DmAt w' bd gd s' qd pr pn) W gd (takeT takeD t a.err a.data a.ver now2) (.bool sa))):=Jh fun W ho=>by
        rw [hsa,← HS.out.facts.2.2.1]
        have hdw:=HDb2.out.other ho HCb2.out.blk (by decide) (by decide) (by decide) (by decide) (by decide)
        exact qeb W hdw (HS.out.cin HI.out) a.A a.c a.ver _ _ _ _ now2 a.err a.data (fun w' ho'=>((HDz2.out.only ho HCb2.out.blk (by decide) hgc).only ho' hdw.blk (by decide) hgd).bytes) HDz2.out.2.1 h1m HNow9.out.1 HNow9.out.2
       have hq:(!((rv == 0) == sa))=false:=by rw [hrv,hsa];cases s.asked<;>rfl
       have HTS:=Jh (qec HI.out HS.out a.err a.data a.ver now2)
       have HW0:Hid (Blk wc.drew gr 42 (repA a.err a.A a.data.length a.c a.ver (.int .i64 a.born) (.int .i64 a.id) (.slice a.LA a.ln a.lc) (.bool a.more))):=Jh (HBr2.out.below (qaa (Below.refl _ _) 1) HBr2.out.lt)
       have HW1:Hid (Below wc.heap.size wc wc.drew):=Jh (qaa (Below.refl _ _) 1)
       clear hrv hsa hgc hgd x1 e20 h1m
       go_region_held3 (fun w'=>w'.cell? ⟨gr,0,none⟩=some (.int .i64 a.err)∧w'.cell? ⟨gr,1,none⟩=some (.slice a.A a.data.length a.c)∧w'.cell? ⟨gr,2,none⟩=some (.int .i64 a.ver)∧w'.cell? ⟨gr,3,none⟩=some (.int .i64 a.born)∧w'.cell? ⟨gr,4,none⟩=some (.int .i64 a.id)∧w'.cell? ⟨gr,5,none⟩=some (.slice a.LA a.ln a.lc)∧w'.cell? ⟨gr,6,none⟩=some (.bool a.more)) (exact HS7.out _ (by first|assumption|exact HW0.out)) (first|(go_at_call 11;refine (HT1.out _ HW1.out).mono ?_;rintro e wm ⟨rfl,⟨rr,rn,hcm⟩,hom⟩;have how:Only gc wc wm:=(Only.of_below HW1.out).trans hom;have hbm:Blk wm gr 42 (repA a.err a.A a.data.length a.c a.ver (.int .i64 a.born) (.int .i64 a.id) (.slice a.LA a.ln a.lc) (.bool a.more)):=how.blk HBr2.out (HBr2.out.ne_ HCb2.out.blk (by decide)))|(go_at_call 20;refine (HT2.out _ how).mono ?_;rintro e wn ⟨rfl,⟨rr',rn',hdn⟩,hon⟩;have hbn:Blk wn gr 42 (repA a.err a.A a.data.length a.c a.ver (.int .i64 a.born) (.int .i64 a.id) (.slice a.LA a.ln a.lc) (.bool a.more)):=hon.blk hbm (hbm.ne_ (HDb2.out.other how HCb2.out.blk (by decide) (by decide) (by decide) (by decide) (by decide)).blk (by decide))))
       have HCn:=Jh (CmAt.other hcm hon (HDb2.out.other how HCb2.out.blk (by decide) (by decide) (by decide) (by decide) (by decide)).blk (by decide) (by decide) (by decide) (by decide) (by decide))
       have HDn:=Jh hdn
       have HBm:Below w.heap.size w wm:=HBb2.out.trans (how.below (Nat.le_trans HBC.out.1 HCb2.out.low) HBb2.out.size)
       have HBn:=Jh (HBm.trans (hon.below (Nat.le_trans HBD.out.1 HDb2.out.low) HBm.size))
       clear hcm hom how hbm hdn hon hbn HBm
       go_wp2
       go_meet
       case rel=>exact ⟨_,rfl,_,_,_,_,_,_,rfl,HCn,HDn,Jh HTS.out.2,Jh HTS.out.1,HBn⟩
      ·have y10:wc.cell? ⟨ga,10,none⟩=some (.int .i64 a.m.gen):=HKb2.out.cell 10
       have y11:wc.cell? ⟨ga,11,none⟩=some (.int .i64 a.m.cut):=HKb2.out.cell 11
       have y12:wc.cell? ⟨ga,12,none⟩=some (.int .i64 a.m.fence):=HKb2.out.cell 12
       have y13:wc.cell? ⟨ga,13,none⟩=some (.slice a.p.AE a.m.E.length a.p.cE):=HKb2.out.cell 13
       have y14:wc.cell? ⟨ga,14,none⟩=some (.slice a.p.AM a.m.M.length a.p.cM):=HKb2.out.cell 14
       have y15:wc.cell? ⟨ga,15,none⟩=some (.slice a.p.AO a.m.O.length a.p.cO):=HKb2.out.cell 15
       have HEn:=Jh (encR_calls wc HOb2.out.man HDz2.out.1 (right_in hrb HOb2.out.man.ok))
       clear hrb
       go_wp2_with fail
       refine HEn.out.mono ?_
       rintro e wd he
       obtain ⟨A8,c8,rfl,hc8,-,-,hbd,hown⟩:=he.opened
       generalize encB a.m=d8 at *
       have HBr3:=Jh (HBr2.out.below hbd HBr2.out.lt)
       have HCb3:=Jh (HCb2.out.below hbd)
       have HDb3:=Jh (HDb2.out.below hbd)
       have HBb3:=Jh (HBb2.out.trans (hbd.mono HBb2.out.size))
       have HGr:Hid (w.heap.size≤gr):=Jh (by have:=HGA.out;have:=HGR.out;omega)
       have f1:=HBr3.out.frozen 1
       have x1:wd.cell? ⟨gr,1,none⟩=some (.slice a.A a.data.length a.c):=HBr3.out.cell 1
       have hon:Only gr wd (wd.setCell ⟨gr,1,none⟩ (.slice A8 d8.length c8)):=(Only.refl gr wd).setCell (.inl rfl) _
       have hb4:=HBr3.out.set_ 1 (.slice A8 d8.length c8)
       simp only [Jd,Je,Jf] at hb4
       have HBr4:=Jh hb4
       have HCb4:=Jh (HCb3.out.other hon HBr3.out (by decide) (by decide) (by decide) (by decide) (by decide))
       have HDb4:=Jh (HDb3.out.other hon HBr3.out (by decide) (by decide) (by decide) (by decide) (by decide))
       have HBb4:=Jh (HBb3.out.setCell (p:=⟨gr,1,none⟩) HGr.out (.slice A8 d8.length c8))
       have HDz4:Hid (Dz (wd.setCell ⟨gr,1,none⟩ (.slice A8 d8.length c8)) B A8 c8 d8):=Jh ⟨by have:=HDz2.out.1;have:=hbd.size;have:=hon.size;omega,hc8,.inr ⟨_,qa3 hown hon HBr3.out (by decide)⟩⟩
       clear he hown hbd hon hb4 HEn y10 y11 y12 y13 y14 y15 HBr2 HKb2 HDz2 HCb2 HDb2 HBb2 HOb2 HBr3 HCb3 HDb3 HBb3
       go_upto_region 24 with fail
       generalize wd.setCell ⟨gr,1,none⟩ (.slice A8 d8.length c8)=wv at *
       have x1:wv.cell? ⟨gr,1,none⟩=some (.slice A8 d8.length c8):=HBr4.out.cell 1
       by_cases h20:20000<(d8.length:Int)
       ·have e20:decide ((20000:Int)<(d8.length:Int))=true:=dct h20
        clear h20
        go_wp2
        go_ret
        exact ⟨rfl,HBb4.out⟩
       have e20:decide ((20000:Int)<(d8.length:Int))=false:=dcf h20
       have h1m:d8.length≤1000000:=by omega
       clear h20
       go_upto_region 26 with fail
       have HS7:Hid (∀ W,Blk W gr 42 (repA a.err A8 d8.length c8 a.ver (.int .i64 a.born) (.int .i64 a.id) (.slice a.LA a.ln a.lc) (.bool a.more))→(W.cell? ⟨gr,0,none⟩=some (.int .i64 a.err)∧W.cell? ⟨gr,1,none⟩=some (.slice A8 d8.length c8)∧W.cell? ⟨gr,2,none⟩=some (.int .i64 a.ver)∧W.cell? ⟨gr,3,none⟩=some (.int .i64 a.born)∧W.cell? ⟨gr,4,none⟩=some (.int .i64 a.id)∧W.cell? ⟨gr,5,none⟩=some (.slice a.LA a.ln a.lc)∧W.cell? ⟨gr,6,none⟩=some (.bool a.more))):=Jh fun W h=>⟨h.cell 0,h.cell 1,h.cell 2,h.cell 3,h.cell 4,h.cell 5,h.cell 6⟩
       obtain ⟨rv,hrv⟩:∃ rv:Int,rv=(if s.asked=true then 0 else 1):=⟨_,rfl⟩
       obtain ⟨sa,hsa⟩:∃ sa:Bool,sa=s.asked:=⟨_,rfl⟩
       have hgc:B≤gc:=by have:=HBC.out.1;have:=HCb4.out.low;omega
       have hgd:B≤gd:=by have:=HBD.out.1;have:=HDb4.out.low;omega
       have HT1:Hid (∀ W,Below wv.heap.size wv W→Calls Tryz.prog 11 #[.pointer (some ⟨gc,0,none⟩),.agg (repA a.err A8 d8.length c8 a.ver (.int .i64 a.born) (.int .i64 a.id) (.slice a.LA a.ln a.lc) (.bool a.more)),.int .i64 now2] W (RetTk (fun w' s'=>∃ pr pn,CmAt w' bc gc s' qc pr pn) W gc (takeT takeS s a.err d8 a.ver now2) (.int .i64 rv))):=Jh fun W hW=>by
        rw [hrv]
        exact qea HBC.out.2 W (HSh.out _ (HBb4.out.trans (hW.mono HBb4.out.size))) (HCb4.out.below hW) HI.out A8 c8 a.ver _ _ _ _ now2 a.err d8 (fun w' ho=>((HDz4.out.below hW).only ho (HCb4.out.below hW).blk (by decide) hgc).bytes) HDz4.out.2.1 h1m HNow9.out.1 HNow9.out.2
       have HT2:Hid (∀ W,Only gc wv W→Calls Tryz.prog 20 #[.pointer (some ⟨gd,0,none⟩),.agg (repA a.err A8 d8.length c8 a.ver (.int .i64 a.born) (.int .i64 a.id) (.slice a.LA a.ln a.lc) (.bool a.more)),.int .i64 now2] W (RetTk (fun w' s'=>∃ pr pn,DmAt w' bd gd s' qd pr pn) W gd (takeT takeD t a.err d8 a.ver now2) (.bool sa))):=Jh fun W ho=>by
        rw [hsa,← HS.out.facts.2.2.1]
        have hdw:=HDb4.out.other ho HCb4.out.blk (by decide) (by decide) (by decide) (by decide) (by decide)
        exact qeb W hdw (HS.out.cin HI.out) A8 c8 a.ver _ _ _ _ now2 a.err d8 (fun w' ho'=>((HDz4.out.only ho HCb4.out.blk (by decide) hgc).only ho' hdw.blk (by decide) hgd).bytes) HDz4.out.2.1 h1m HNow9.out.1 HNow9.out.2
       have hq:(!((rv == 0) == sa))=false:=by rw [hrv,hsa];cases s.asked<;>rfl
       have HTS:=Jh (qec HI.out HS.out a.err d8 a.ver now2)
       have HW0:Hid (Blk wv.drew gr 42 (repA a.err A8 d8.length c8 a.ver (.int .i64 a.born) (.int .i64 a.id) (.slice a.LA a.ln a.lc) (.bool a.more))):=Jh (HBr4.out.below (qaa (Below.refl _ _) 1) HBr4.out.lt)
       have HW1:Hid (Below wv.heap.size wv wv.drew):=Jh (qaa (Below.refl _ _) 1)
       clear hrv hsa hgc hgd x1 e20 h1m
       go_region_held3 (fun w'=>w'.cell? ⟨gr,0,none⟩=some (.int .i64 a.err)∧w'.cell? ⟨gr,1,none⟩=some (.slice A8 d8.length c8)∧w'.cell? ⟨gr,2,none⟩=some (.int .i64 a.ver)∧w'.cell? ⟨gr,3,none⟩=some (.int .i64 a.born)∧w'.cell? ⟨gr,4,none⟩=some (.int .i64 a.id)∧w'.cell? ⟨gr,5,none⟩=some (.slice a.LA a.ln a.lc)∧w'.cell? ⟨gr,6,none⟩=some (.bool a.more)) (exact HS7.out _ (by first|assumption|exact HW0.out)) (first|(go_at_call 11;refine (HT1.out _ HW1.out).mono ?_;rintro e wm ⟨rfl,⟨rr,rn,hcm⟩,hom⟩;have how:Only gc wv wm:=(Only.of_below HW1.out).trans hom;have hbm:Blk wm gr 42 (repA a.err A8 d8.length c8 a.ver (.int .i64 a.born) (.int .i64 a.id) (.slice a.LA a.ln a.lc) (.bool a.more)):=how.blk HBr4.out (HBr4.out.ne_ HCb4.out.blk (by decide)))|(go_at_call 20;refine (HT2.out _ how).mono ?_;rintro e wn ⟨rfl,⟨rr',rn',hdn⟩,hon⟩;have hbn:Blk wn gr 42 (repA a.err A8 d8.length c8 a.ver (.int .i64 a.born) (.int .i64 a.id) (.slice a.LA a.ln a.lc) (.bool a.more)):=hon.blk hbm (hbm.ne_ (HDb4.out.other how HCb4.out.blk (by decide) (by decide) (by decide) (by decide) (by decide)).blk (by decide))))
       have HCn:=Jh (CmAt.other hcm hon (HDb4.out.other how HCb4.out.blk (by decide) (by decide) (by decide) (by decide) (by decide)).blk (by decide) (by decide) (by decide) (by decide) (by decide))
       have HDn:=Jh hdn
       have HBm:Below w.heap.size w wm:=HBb4.out.trans (how.below (Nat.le_trans HBC.out.1 HCb4.out.low) HBb4.out.size)
       have HBn:=Jh (HBm.trans (hon.below (Nat.le_trans HBD.out.1 HDb4.out.low) HBm.size))
       clear hcm hom how hbm hdn hon hbn HBm
       go_wp2
       go_meet
       case rel=>exact ⟨_,rfl,_,_,_,_,_,_,rfl,HCn,HDn,Jh HTS.out.2,Jh HTS.out.1,HBn⟩
     ·have e60:decide ((a.m.E.length:Int)≤60)=false:=dcf h60
      clear h60
      go_upto_region 24 with fail
      have x1:wb.cell? ⟨gr,1,none⟩=some (.slice a.A a.data.length a.c):=HBr.out.cell 1
      by_cases h20:20000<(a.data.length:Int)
      ·have e20:decide ((20000:Int)<(a.data.length:Int))=true:=dct h20
       clear h20
       go_wp2
       go_ret
       exact ⟨rfl,HBb.out⟩
      have e20:decide ((20000:Int)<(a.data.length:Int))=false:=dcf h20
      have h1m:a.data.length≤1000000:=by omega
      clear h20
      go_upto_region 26 with fail
      have HS7:Hid (∀ W,Blk W gr 42 (repA a.err a.A a.data.length a.c a.ver (.int .i64 a.born) (.int .i64 a.id) (.slice a.LA a.ln a.lc) (.bool a.more))→(W.cell? ⟨gr,0,none⟩=some (.int .i64 a.err)∧W.cell? ⟨gr,1,none⟩=some (.slice a.A a.data.length a.c)∧W.cell? ⟨gr,2,none⟩=some (.int .i64 a.ver)∧W.cell? ⟨gr,3,none⟩=some (.int .i64 a.born)∧W.cell? ⟨gr,4,none⟩=some (.int .i64 a.id)∧W.cell? ⟨gr,5,none⟩=some (.slice a.LA a.ln a.lc)∧W.cell? ⟨gr,6,none⟩=some (.bool a.more))):=Jh fun W h=>⟨h.cell 0,h.cell 1,h.cell 2,h.cell 3,h.cell 4,h.cell 5,h.cell 6⟩
      obtain ⟨rv,hrv⟩:∃ rv:Int,rv=(if s.asked=true then 0 else 1):=⟨_,rfl⟩
      obtain ⟨sa,hsa⟩:∃ sa:Bool,sa=s.asked:=⟨_,rfl⟩
      have hgc:B≤gc:=by have:=HBC.out.1;have:=HCb.out.low;omega
      have hgd:B≤gd:=by have:=HBD.out.1;have:=HDb.out.low;omega
      have HT1:Hid (∀ W,Below wb.heap.size wb W→Calls Tryz.prog 11 #[.pointer (some ⟨gc,0,none⟩),.agg (repA a.err a.A a.data.length a.c a.ver (.int .i64 a.born) (.int .i64 a.id) (.slice a.LA a.ln a.lc) (.bool a.more)),.int .i64 now2] W (RetTk (fun w' s'=>∃ pr pn,CmAt w' bc gc s' qc pr pn) W gc (takeT takeS s a.err a.data a.ver now2) (.int .i64 rv))):=Jh fun W hW=>by
       rw [hrv]
       exact qea HBC.out.2 W (HSh.out _ (HBb.out.trans (hW.mono HBb.out.size))) (HCb.out.below hW) HI.out a.A a.c a.ver _ _ _ _ now2 a.err a.data (fun w' ho=>((HDz.out.below hW).only ho (HCb.out.below hW).blk (by decide) hgc).bytes) HDz.out.2.1 h1m HNow9.out.1 HNow9.out.2
      have HT2:Hid (∀ W,Only gc wb W→Calls Tryz.prog 20 #[.pointer (some ⟨gd,0,none⟩),.agg (repA a.err a.A a.data.length a.c a.ver (.int .i64 a.born) (.int .i64 a.id) (.slice a.LA a.ln a.lc) (.bool a.more)),.int .i64 now2] W (RetTk (fun w' s'=>∃ pr pn,DmAt w' bd gd s' qd pr pn) W gd (takeT takeD t a.err a.data a.ver now2) (.bool sa))):=Jh fun W ho=>by
       rw [hsa,← HS.out.facts.2.2.1]
       have hdw:=HDb.out.other ho HCb.out.blk (by decide) (by decide) (by decide) (by decide) (by decide)
       exact qeb W hdw (HS.out.cin HI.out) a.A a.c a.ver _ _ _ _ now2 a.err a.data (fun w' ho'=>((HDz.out.only ho HCb.out.blk (by decide) hgc).only ho' hdw.blk (by decide) hgd).bytes) HDz.out.2.1 h1m HNow9.out.1 HNow9.out.2
      have hq:(!((rv == 0) == sa))=false:=by rw [hrv,hsa];cases s.asked<;>rfl
      have HTS:=Jh (qec HI.out HS.out a.err a.data a.ver now2)
      have HW0:Hid (Blk wb.drew gr 42 (repA a.err a.A a.data.length a.c a.ver (.int .i64 a.born) (.int .i64 a.id) (.slice a.LA a.ln a.lc) (.bool a.more))):=Jh (HBr.out.below (qaa (Below.refl _ _) 1) HBr.out.lt)
      have HW1:Hid (Below wb.heap.size wb wb.drew):=Jh (qaa (Below.refl _ _) 1)
      clear hrv hsa hgc hgd x1 e20 h1m
      go_region_held3 (fun w'=>w'.cell? ⟨gr,0,none⟩=some (.int .i64 a.err)∧w'.cell? ⟨gr,1,none⟩=some (.slice a.A a.data.length a.c)∧w'.cell? ⟨gr,2,none⟩=some (.int .i64 a.ver)∧w'.cell? ⟨gr,3,none⟩=some (.int .i64 a.born)∧w'.cell? ⟨gr,4,none⟩=some (.int .i64 a.id)∧w'.cell? ⟨gr,5,none⟩=some (.slice a.LA a.ln a.lc)∧w'.cell? ⟨gr,6,none⟩=some (.bool a.more)) (exact HS7.out _ (by first|assumption|exact HW0.out)) (first|(go_at_call 11;refine (HT1.out _ HW1.out).mono ?_;rintro e wm ⟨rfl,⟨rr,rn,hcm⟩,hom⟩;have how:Only gc wb wm:=(Only.of_below HW1.out).trans hom;have hbm:Blk wm gr 42 (repA a.err a.A a.data.length a.c a.ver (.int .i64 a.born) (.int .i64 a.id) (.slice a.LA a.ln a.lc) (.bool a.more)):=how.blk HBr.out (HBr.out.ne_ HCb.out.blk (by decide)))|(go_at_call 20;refine (HT2.out _ how).mono ?_;rintro e wn ⟨rfl,⟨rr',rn',hdn⟩,hon⟩;have hbn:Blk wn gr 42 (repA a.err a.A a.data.length a.c a.ver (.int .i64 a.born) (.int .i64 a.id) (.slice a.LA a.ln a.lc) (.bool a.more)):=hon.blk hbm (hbm.ne_ (HDb.out.other how HCb.out.blk (by decide) (by decide) (by decide) (by decide) (by decide)).blk (by decide))))
      have HCn:=Jh (CmAt.other hcm hon (HDb.out.other how HCb.out.blk (by decide) (by decide) (by decide) (by decide) (by decide)).blk (by decide) (by decide) (by decide) (by decide) (by decide))
      have HDn:=Jh hdn
      have HBm:Below w.heap.size w wm:=HBb.out.trans (how.below (Nat.le_trans HBC.out.1 HCb.out.low) HBb.out.size)
      have HBn:=Jh (HBm.trans (hon.below (Nat.le_trans HBD.out.1 HDb.out.low) HBm.size))
      clear hcm hom how hbm hdn hon hbn HBm
      go_wp2
      go_meet
      case rel=>exact ⟨_,rfl,_,_,_,_,_,_,rfl,HCn,HDn,Jh HTS.out.2,Jh HTS.out.1,HBn⟩
    case true =>
     have HX:=Jh (nextP_any HBC.out.2 wa (HSh.out _ HBa.out) HCa.out HI.out now2)
     have HNS:=Jh (next_sim HI.out HS.out now2)
     have HTI:=Jh (HS.out.cin HI.out)
     generalize hNC:nextC s now2=NC at *
     generalize hNB:nextB s now2=nb at *
     clear y1
     go_wp2_with fail
     refine HX.out.mono ?_
     rintro e wb hr
     unfold RetNext at hr
     rw [hNC,hNB] at hr
     obtain ⟨Ab,cb,rfl,hown,hcm,hob⟩:=hr
     obtain ⟨ck,ckey,cd,cver⟩:=NC
     dsimp only at hown ⊢
     have HDb:=Jh (HDa.out.other hob HCa.out.blk (by decide) (by decide) (by decide) (by decide) (by decide))
     have HBb:Hid (Below w.heap.size w wb):=Jh (HBa.out.trans (hob.below (Nat.le_trans HBC.out.1 HCa.out.low) HBa.out.size))
     have HXb:=Jh (Blk.new wb 35 (callC ck ckey Ab cd.length cb cver))
     have hbb:=(Below.refl wb.heap.size wb).alloc (Nat.le_refl _) (.cells (callC ck ckey Ab cd.length cb cver) 35)
     have HCc:=Jh (hcm.below hbb)
     have HDc:=Jh (HDb.out.below hbb)
     have HBc:=Jh (HBb.out.alloc HBb.out.size (.cells (callC ck ckey Ab cd.length cb cver) 35))
     have HOc:=Jh (qak hown hbb)
     clear hown hcm hob hbb HX HDb HBb HBka HOa HBa HCa HDa
     have HY:=Jh (nextR_any (wb.alloc (.cells (callC ck ckey Ab cd.length cb cver) 35)) HDc.out HTI.out now2)
     go_wp2_with fail
     obtain ⟨g1,hg1⟩:∃ g1,g1=wb.heap.size:=⟨_,rfl⟩
     rw [← hg1] at HXb ⊢
     clear hg1
     generalize wb.alloc (.cells (callC ck ckey Ab cd.length cb cver) 35)=wc at *
     refine HY.out.mono ?_
     rintro e wd hr
     unfold RetNext at hr
     rw [HNS.out.2.1,HNS.out.1] at hr
     obtain ⟨Ad,cdd,rfl,hown,hdm,hod⟩:=hr
     dsimp only at hown ⊢
     have HCd:=Jh (HCc.out.other hod HDc.out.blk (by decide) (by decide) (by decide) (by decide) (by decide))
     have HBd:Hid (Below w.heap.size w wd):=Jh (HBc.out.trans (hod.below (Nat.le_trans HBD.out.1 HDc.out.low) HBc.out.size))
     have HXd:=Jh (hod.blk HXb.out (HXb.out.ne_ HDc.out.blk (by decide)))
     have HOd:=Jh (qa3 HOc.out hod HDc.out.blk (by decide))
     have hbd:=(Below.refl wd.heap.size wd).alloc (Nat.le_refl _) (.cells (callC ck ckey Ad cd.length cdd cver) 35)
     have HXe:=Jh (HXd.out.below hbd HXd.out.lt)
     have HYe:=Jh (Blk.new wd 35 (callC ck ckey Ad cd.length cdd cver))
     have HCe:=Jh (HCd.out.below hbd)
     have HDe:=Jh (hdm.below hbd)
     have HBe:=Jh (HBd.out.alloc HBd.out.size (.cells (callC ck ckey Ad cd.length cdd cver) 35))
     have HOe:=Jh (qbd (qak HOd.out hbd))
     have HPe:=Jh (qbd (qak hown hbd))
     clear hown hdm hod hbd HY HCd HBd HXd HOd HXb HCc HDc HBc HOc
     go_upto_region 19 with fail
     obtain ⟨g2,hg2⟩:∃ g2,g2=wd.heap.size:=⟨_,rfl⟩
     rw [← hg2] at HYe ⊢
     clear hg2
     generalize wd.alloc (.cells (callC ck ckey Ad cd.length cdd cver) 35)=we at *
     have hnb:(nb != nb)=false:=by cases nb<;>rfl
     have u0:=HXe.out.cell 0
     have u1:=HXe.out.cell 1
     have u2:=HXe.out.cell 2
     have u3:=HXe.out.cell 3
     have u4:=HXe.out.cell 4
     have u5:=HXe.out.cell 5
     have u6:=HXe.out.cell 6
     have v0:=HYe.out.cell 0
     have v1:=HYe.out.cell 1
     have v2:=HYe.out.cell 2
     have v3:=HYe.out.cell 3
     have v4:=HYe.out.cell 4
     have v5:=HYe.out.cell 5
     have v6:=HYe.out.cell 6
     simp only [Ja,Jb,Jc] at u0 u1 u2 u3 u4 u5 u6 v0 v1 v2 v3 v4 v5 v6
     have HSC:=Jh (sameCall_calls we (c1:=cb) (c2:=cdd) HOe.out HPe.out (Nat.le_refl _) (Nat.le_refl _) ck ckey cver)
     go_wp2_with fail
     refine HSC.out.mono ?_
     rintro e wf ⟨rfl,hbf⟩
     have HCf:=Jh (HCe.out.below hbf)
     have HDf:=Jh (HDe.out.below hbf)
     have HBf:=Jh (HBe.out.trans (hbf.mono HBe.out.size))
     clear u0 u1 u2 u3 u4 u5 u6 v0 v1 v2 v3 v4 v5 v6 hbf HSC
     go_wp2
     go_meet
     case rel=>exact ⟨_,rfl,nextS s now2,nextS t now2,pr,pn,pr',pn',rfl,HCf,HDf,Jh HNS.out.2.2.2,Jh HNS.out.2.2.1,HBf⟩
   case rest =>
    obtain ⟨W9,rfl,s',t',qr,qn,qr',qn',rfl,HC9,HD9,HI9,HS9,HB9⟩:=hcut
    clear HCa HDa HBka HOa HBa HI HS y1
    obtain ⟨ff,fd,ht',-⟩:=HS9.out
    subst ht'
    have HSt:=Jh (qex W9 HC9.out)
    go_wp2_with fail
    refine HSt.out.mono ?_
    rintro e wz ⟨rfl,hbz⟩
    have HCz:=Jh (HC9.out.below hbz)
    have HDz:=Jh (HD9.out.below hbz)
    have HBz:=Jh (HB9.out.trans (hbz.mono HB9.out.size))
    clear hbz HSt HC9 HD9 HB9
    have q1:(s'.st != s'.st)=false:=nef rfl
    have q2:(s'.er != s'.er)=false:=nef rfl
    have HS8:Hid (∀ W,Below wz.heap.size wz W→(W.cell? ⟨gd,15,none⟩=some (.int .i64 s'.read.gen)∧W.cell? ⟨gd,16,none⟩=some (.int .i64 s'.read.cut)∧W.cell? ⟨gd,17,none⟩=some (.int .i64 s'.read.fence)∧W.cell? ⟨gd,18,none⟩=some (.slice qr'.AE s'.read.E.length qr'.cE)∧W.cell? ⟨gd,19,none⟩=some (.slice qr'.AM s'.read.M.length qr'.cM)∧W.cell? ⟨gd,20,none⟩=some (.slice qr'.AO s'.read.O.length qr'.cO)∧W.cell? ⟨gd,27,none⟩=some (.int .i64 s'.st)∧W.cell? ⟨gd,28,none⟩=some (.int .i64 s'.er))):=Jh fun W hW=>by
     have h:=HDz.out.blk.below hW HDz.out.blk.lt
     exact ⟨h.cell 15,h.cell 16,h.cell 17,h.cell 18,h.cell 19,h.cell 20,h.cell 27,h.cell 28⟩
    have HMn:=Jh fun W (hW:Below wz.heap.size wz W)=>manP_calls W (HCz.out.below hW) HI9.out.g.read
    have HSm:Hid (∀ W (b:Nat) (pz:Pl),Below wz.heap.size wz W→Mow W b s'.read pz→Calls Tryz.prog 14 #[mdV s'.read pz,mdV s'.read qr'] W fun e w'=>e=.returned (.bool true)∧Below W.heap.size W w'):=Jh fun W b pz hW hmo=>by
     refine (sameM_calls W (hmo.good HI9.out.g.read) ((HDz.out.below hW).rd.good HI9.out.g.read) (Nat.le_refl _) (Nat.le_refl _)).mono ?_
     rintro e w' ⟨rfl,hb⟩
     exact ⟨by rw [same_self],hb⟩
    have HW1:Hid (Below wz.heap.size wz wz.drew):=Jh (qaa (Below.refl _ _) 1)
    go_upto_region 29 with fail
    go_region_held3 (fun w'=>w'.cell? ⟨gd,15,none⟩=some (.int .i64 s'.read.gen)∧w'.cell? ⟨gd,16,none⟩=some (.int .i64 s'.read.cut)∧w'.cell? ⟨gd,17,none⟩=some (.int .i64 s'.read.fence)∧w'.cell? ⟨gd,18,none⟩=some (.slice qr'.AE s'.read.E.length qr'.cE)∧w'.cell? ⟨gd,19,none⟩=some (.slice qr'.AM s'.read.M.length qr'.cM)∧w'.cell? ⟨gd,20,none⟩=some (.slice qr'.AO s'.read.O.length qr'.cO)∧w'.cell? ⟨gd,27,none⟩=some (.int .i64 s'.st)∧w'.cell? ⟨gd,28,none⟩=some (.int .i64 s'.er)) (exact HS8.out _ (by first|assumption|exact HW1.out)) (first|(go_at_call 15;refine (HMn.out _ HW1.out).mono ?_;rintro e wm ⟨pz,rfl,hmo,hbm⟩;have hem:Below wz.heap.size wz wm:=HW1.out.trans (hbm.mono HW1.out.size))|(go_at_call 14;refine (HSm.out _ _ _ hem hmo).mono ?_;rintro e wn ⟨rfl,hbn⟩;have hen:Below wz.heap.size wz wn:=hem.trans (hbn.mono hem.size)))
    have HCe:=Jh (HCz.out.below hen)
    have HDe:=Jh (HDz.out.below hen)
    have HBe:=Jh (HBz.out.trans (hen.mono HBz.out.size))
    clear hmo hbm hem hbn hen HCz HDz HBz HS8 HMn HSm q1 q2
    have h60:=H60.out
    go_wp2
    go_roundw
    case rel=>exact ⟨i+1,now2,s',_,qr,qn,qr',qn',by omega,by go_num,rfl,HNow2,HCe,HDe,HI9,HS9,HBe⟩
    case measure=>simp [intOf];omega
  ·obtain rfl:i=l.length:=by omega
   go_wp2
   go_ret
   exact ⟨rfl,HB.out⟩
theorem walk {H:Type} {enc:TypeId × Value→H} {W:World} {base:Nat} {v0 v1 v2 v3:Value} {d0 d1 d2 d3:DataW H} {p0 p1 p2 p3:List MemPlace} (hsh:W.ShapedOpen Tryz.prog) (g0:Arg enc Tryz.prog W base 28 v0 d0 p0) (g1:Arg enc Tryz.prog W base 3 v1 d1 p1) (g2:Arg enc Tryz.prog W base 3 v2 d2 p2) (g3:Arg enc Tryz.prog W base 46 v3 d3 p3) :
  Calls Tryz.prog 4 #[v0,v1,v2,v3] W fun e w'=>e=.returned (.bool true)∧Below W.heap.size W w':=by
 obtain ⟨x,q,rfl,hE⟩:=arg_edit g0
 obtain ⟨tries,rfl,-,_⟩:=g1.int Tryz.underlying3
 obtain ⟨wait,rfl,-,_⟩:=g2.int Tryz.underlying3
 obtain ⟨A,c,l,rfl,hL⟩:=arg_acts g3
 exact body W hE hL (Nat.le_refl _) tries wait (var0 hsh)
end Go.Proofs.YtibnehaibgbliaaGreat.lawCommitPlays
