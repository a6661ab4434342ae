/- Laws for the row's walk. -/
import Derived.Test.YtibnehaibgbliaaGreatQ29
set_option linter.unusedVariables false
set_option linter.unusedSimpArgs false
open Go.Lib renaming hid → Jh
open List renaming getElem?_toArray → Ja, getElem?_cons_zero → Jb, getElem?_cons_succ → Jc, setIfInBounds_toArray → Jd, set_cons_zero → Je, set_cons_succ → Jf, getElem_cons_zero → Jg, getElem_cons_succ → Ji, getElem_toArray → Jk
namespace Go.Proofs.YtibnehaibgbliaaGreat.lawCommitCalm
open Go.RowKit Go.Proofs.YtibnehaibgbliaaGreat Go.Proofs.YtibnehaibgbliaaGreat.Mf
structure Fz (w W:World) (b8:Nat) (M:Md) (p8:Pl) (g8 b9:Nat) (Y:Md) (p9:Pl) (g9:Nat):Prop where
 below:Below w.heap.size w W
 m8:Mow W b8 M p8
 k8:Blk W g8 53 #[.int .i64 M.gen,.int .i64 M.cut,.int .i64 M.fence,.slice p8.AE M.E.length p8.cE,.slice p8.AM M.M.length p8.cM,.slice p8.AO M.O.length p8.cO]
 m9:Mow W b9 Y p9
 k9:Blk W g9 53 #[.int .i64 Y.gen,.int .i64 Y.cut,.int .i64 Y.fence,.slice p9.AE Y.E.length p9.cE,.slice p9.AM Y.M.length p9.cM,.slice p9.AO Y.O.length p9.cO]
section
variable {w W W':World} {b8 g8 b9 g9:Nat} {M Y:Md} {p8 p9:Pl}
theorem Fz.on (h:Fz w W b8 M p8 g8 b9 Y p9 g9) (hb:Below W.heap.size W W'):Fz w W' b8 M p8 g8 b9 Y p9 g9:=⟨h.below.trans (hb.mono h.below.size),h.m8.below hb,h.k8.below hb h.k8.lt,h.m9.below hb,h.k9.below hb h.k9.lt⟩
theorem Fz.only (h:Fz w W b8 M p8 g8 b9 Y p9 g9) {g:Nat} {cs:Array Value} (ho:Only g W W') (hk:Blk W g 92 cs) (hg:w.heap.size≤g):Fz w W' b8 M p8 g8 b9 Y p9 g9 :=
 ⟨h.below.trans (ho.below hg h.below.size),h.m8.only ho hk (by decide) (by decide) (by decide),ho.blk h.k8 (h.k8.ne_ hk (by decide)),h.m9.only ho hk (by decide) (by decide) (by decide),ho.blk h.k9 (h.k9.ne_ hk (by decide))⟩
theorem Fz.kt (h:Fz w W b8 M p8 g8 b9 Y p9 g9) (hk:KT W W') {b:Nat} (hb:Below b W W') (hg:w.heap.size≤b):Fz w W' b8 M p8 g8 b9 Y p9 g9 :=
 ⟨h.below.trans (hb.mono hg),h.m8.kt hk,hk.blk_ h.k8 (by decide) (by decide),h.m9.kt hk,hk.blk_ h.k9 (by decide) (by decide)⟩
end
inductive Stage (x:Ed) (tries:Int) (M:Md) (V:Int) (Y:Md) (ae:Int):Nat→Cst→Md→Int→Prop
 | start:Stage x tries M V Y ae 0 (newS x tries 0) M V
 | refused (s:Cst):ae≠0→s.st=2→s.er=ae→Cin s→Stage x tries M V Y ae 1 s M V
 | writes (s:Cst):ae=0→s.st=0→s.asked=false→s.due=0→s.writes=true→s.ver=V→s.next=Y→Cin s→Stage x tries M V Y ae 1 s M V
 | done (s:Cst):ae=0→s.st=1→s.read=Y→Cin s→Stage x tries M V Y ae 2 s Y (V+1)
set_option maxRecDepth 100000 in
set_option maxHeartbeats 12800000 in
theorem body (w:World) {B:Nat} {x1:Ed} {q1:Pd} (hE1:Edi w B x1 q1) {x2:Ed} {q2:Pd} (hE2:Edi w B x2 q2) (hB:B≤w.heap.size) (tries:Int) (hm:Sh w) :
  Calls Tryz.prog 6 #[edV x1 q1,edV x2 q2,.int .i64 tries] w fun e w'=>e=.returned (.bool true)∧Below w.heap.size w w':=by
 have HE1:=Jh fun W (hW:Below w.heap.size w W)=>hE1.below (hW.mono hB)
 have HE2:=Jh fun W (hW:Below w.heap.size w W)=>hE2.below (hW.mono hB)
 have HSh:=Jh fun W (hW:Below w.heap.size w W)=>hm.below hW hm.lt
 have HBw:=Jh hB
 clear hE1 hE2 hm hB
 have HB2:Hid (Below w.heap.size w ((w.alloc (.cells #[.slice q1.AA x1.add.length q1.cA,.slice q1.AD x1.drop.length q1.cD,.slice q1.AM x1.marks.length q1.cM,.int .i64 x1.cut,.int .i64 x1.fence,.int .i64 x1.by_.agent,.int .i64 x1.by_.life,.int .i64 x1.by_.count] 28)).alloc (.cells #[.slice q2.AA x2.add.length q2.cA,.slice q2.AD x2.drop.length q2.cD,.slice q2.AM x2.marks.length q2.cM,.int .i64 x2.cut,.int .i64 x2.fence,.int .i64 x2.by_.agent,.int .i64 x2.by_.life,.int .i64 x2.by_.count] 28))):=Jh (((Below.refl _ _).alloc (Nat.le_refl _) _).alloc (by simp) _)
 have HZ1:=Jh ((Blk.new w 28 #[.slice q1.AA x1.add.length q1.cA,.slice q1.AD x1.drop.length q1.cD,.slice q1.AM x1.marks.length q1.cM,.int .i64 x1.cut,.int .i64 x1.fence,.int .i64 x1.by_.agent,.int .i64 x1.by_.life,.int .i64 x1.by_.count]).alloc (.cells #[.slice q2.AA x2.add.length q2.cA,.slice q2.AD x2.drop.length q2.cD,.slice q2.AM x2.marks.length q2.cM,.int .i64 x2.cut,.int .i64 x2.fence,.int .i64 x2.by_.agent,.int .i64 x2.by_.life,.int .i64 x2.by_.count] 28))
 have HZ2:Hid (Blk ((w.alloc (.cells #[.slice q1.AA x1.add.length q1.cA,.slice q1.AD x1.drop.length q1.cD,.slice q1.AM x1.marks.length q1.cM,.int .i64 x1.cut,.int .i64 x1.fence,.int .i64 x1.by_.agent,.int .i64 x1.by_.life,.int .i64 x1.by_.count] 28)).alloc (.cells #[.slice q2.AA x2.add.length q2.cA,.slice q2.AD x2.drop.length q2.cD,.slice q2.AM x2.marks.length q2.cM,.int .i64 x2.cut,.int .i64 x2.fence,.int .i64 x2.by_.agent,.int .i64 x2.by_.life,.int .i64 x2.by_.count] 28)) (w.heap.size+1) 28 #[.slice q2.AA x2.add.length q2.cA,.slice q2.AD x2.drop.length q2.cD,.slice q2.AM x2.marks.length q2.cM,.int .i64 x2.cut,.int .i64 x2.fence,.int .i64 x2.by_.agent,.int .i64 x2.by_.life,.int .i64 x2.by_.count]):=Jh (by
  have:=Blk.new (w.alloc (.cells #[.slice q1.AA x1.add.length q1.cA,.slice q1.AD x1.drop.length q1.cD,.slice q1.AM x1.marks.length q1.cM,.int .i64 x1.cut,.int .i64 x1.fence,.int .i64 x1.by_.agent,.int .i64 x1.by_.life,.int .i64 x1.by_.count] 28)) 28 #[.slice q2.AA x2.add.length q2.cA,.slice q2.AD x2.drop.length q2.cD,.slice q2.AM x2.marks.length q2.cM,.int .i64 x2.cut,.int .i64 x2.fence,.int .i64 x2.by_.agent,.int .i64 x2.by_.life,.int .i64 x2.by_.count]
  rw [World.size_alloc] at this
  exact this)
 go_enter Tryz.func6,Tryz.ntmps6
 go_wp2_with fail
 obtain ⟨g1,hg1⟩:∃ g1,g1=w.heap.size:=⟨_,rfl⟩
 obtain ⟨g2,hg2⟩:∃ g2,g2=w.heap.size+1:=⟨_,rfl⟩
 rw [← hg2] at HZ2 ⊢
 rw [← hg1] at HZ1 ⊢
 clear hg1 hg2
 generalize (w.alloc (.cells #[.slice q1.AA x1.add.length q1.cA,.slice q1.AD x1.drop.length q1.cD,.slice q1.AM x1.marks.length q1.cM,.int .i64 x1.cut,.int .i64 x1.fence,.int .i64 x1.by_.agent,.int .i64 x1.by_.life,.int .i64 x1.by_.count] 28)).alloc (.cells #[.slice q2.AA x2.add.length q2.cA,.slice q2.AD x2.drop.length q2.cD,.slice q2.AM x2.marks.length q2.cM,.int .i64 x2.cut,.int .i64 x2.fence,.int .i64 x2.by_.agent,.int .i64 x2.by_.life,.int .i64 x2.by_.count] 28)=w2 at *
 refine (clives_calls _).mono ?_
 rintro e w3 ⟨rfl,hb3⟩
 have HB3:=Jh (HB2.out.trans (hb3.mono HB2.out.size))
 have HZ13:=Jh (HZ1.out.below hb3 HZ1.out.lt)
 have HZ23:=Jh (HZ2.out.below hb3 HZ2.out.lt)
 clear hb3 HZ1 HZ2 HB2
 have b0:=HZ23.out.cell 0
 have b1:=HZ23.out.cell 1
 have b2:=HZ23.out.cell 2
 have b3:=HZ23.out.cell 3
 have b4:=HZ23.out.cell 4
 have b5:=HZ23.out.cell 5
 have b6:=HZ23.out.cell 6
 have b7:=HZ23.out.cell 7
 simp only [Ja,Jb,Jc] at b0 b1 b2 b3 b4 b5 b6 b7
 go_wp2_with fail
 refine (cfew_calls w3 (HE2.out w3 HB3.out) (Nat.le_trans HBw.out HB3.out.size)).mono ?_
 rintro e w4 ⟨f2,rfl,hf2,hb4⟩
 have HB4:=Jh (HB3.out.trans (hb4.mono HB3.out.size))
 have HZ14:=Jh (HZ13.out.below hb4 HZ13.out.lt)
 have HZ24:=Jh (HZ23.out.below hb4 HZ23.out.lt)
 clear hb4 HZ13 HZ23 b0 b1 b2 b3 b4 b5 b6 b7
 cases f2
 ·clear hf2
  go_wp2_with fail
  refine (clives_calls _).mono ?_
  rintro e w9 ⟨rfl,hb9⟩
  have HB9:=Jh (HB4.out.trans (hb9.mono HB4.out.size))
  clear hb9
  go_wp2
  go_ret
  exact ⟨rfl,HB9.out⟩
 have HGe2:=Jh (hf2 rfl)
 clear hf2
 have a0:=HZ14.out.cell 0
 have a1:=HZ14.out.cell 1
 have a2:=HZ14.out.cell 2
 have a3:=HZ14.out.cell 3
 have a4:=HZ14.out.cell 4
 have a5:=HZ14.out.cell 5
 have a6:=HZ14.out.cell 6
 have a7:=HZ14.out.cell 7
 simp only [Ja,Jb,Jc] at a0 a1 a2 a3 a4 a5 a6 a7
 go_wp2_with fail
 refine (cfew_calls w4 (HE1.out w4 HB4.out) (Nat.le_trans HBw.out HB4.out.size)).mono ?_
 rintro e w5 ⟨f1,rfl,hf1,hb5⟩
 have HB5:=Jh (HB4.out.trans (hb5.mono HB4.out.size))
 have HZ15:=Jh (HZ14.out.below hb5 HZ14.out.lt)
 have HZ25:=Jh (HZ24.out.below hb5 HZ24.out.lt)
 clear hb5 HZ14 HZ24 a0 a1 a2 a3 a4 a5 a6 a7
 cases f1
 ·clear hf1
  go_wp2_with fail
  refine (clives_calls _).mono ?_
  rintro e w9 ⟨rfl,hb9⟩
  have HB9:=Jh (HB5.out.trans (hb9.mono HB5.out.size))
  clear hb9
  go_wp2
  go_ret
  exact ⟨rfl,HB9.out⟩
 have HGe1:=Jh (hf1 rfl)
 clear hf1
 have a0:=HZ15.out.cell 0
 have a1:=HZ15.out.cell 1
 have a2:=HZ15.out.cell 2
 have a3:=HZ15.out.cell 3
 have a4:=HZ15.out.cell 4
 have a5:=HZ15.out.cell 5
 have a6:=HZ15.out.cell 6
 have a7:=HZ15.out.cell 7
 simp only [Ja,Jb,Jc] at a0 a1 a2 a3 a4 a5 a6 a7
 have b0:=HZ25.out.cell 0
 have b1:=HZ25.out.cell 1
 have b2:=HZ25.out.cell 2
 have b3:=HZ25.out.cell 3
 have b4:=HZ25.out.cell 4
 have b5:=HZ25.out.cell 5
 have b6:=HZ25.out.cell 6
 have b7:=HZ25.out.cell 7
 simp only [Ja,Jb,Jc] at b0 b1 b2 b3 b4 b5 b6 b7
 by_cases hag:x1.by_.agent=x2.by_.agent
 ·have e1:(x1.by_.agent == x2.by_.agent)=true:=eqt hag
  clear hag
  go_wp2_with fail
  refine (clives_calls _).mono ?_
  rintro e w9 ⟨rfl,hb9⟩
  have HB9:=Jh (HB5.out.trans (hb9.mono HB5.out.size))
  clear hb9
  go_wp2
  go_ret
  exact ⟨rfl,HB9.out⟩
 have e1:(x1.by_.agent == x2.by_.agent)=false:=eqf hag
 have HAg:=Jh hag
 clear hag
 have hbs:=(Below.refl w5.heap.size w5).alloc (Nat.le_refl _) (.cells #[.slice none 0 0,.slice none 0 0,.int .i64 0,.int .i64 0,.int .i64 0] 72)
 have HS6:Hid (StM (w5.alloc (.cells #[.slice none 0 0,.slice none 0 0,.int .i64 0,.int .i64 0,.int .i64 0] 72)) w5.heap.size w5.heap.size zeroM 0 0):=Jh (.inl ⟨rfl,rfl,Nat.le_refl _,Blk.new _ _ _⟩)
 have HB6:=Jh (HB5.out.trans (hbs.mono HB5.out.size))
 have HZ16:=Jh (HZ15.out.below hbs HZ15.out.lt)
 have HZ26:=Jh (HZ25.out.below hbs HZ25.out.lt)
 go_upto_region 4 with fail
 obtain ⟨gs,hgs⟩:∃ gs,gs=w5.heap.size:=⟨_,rfl⟩
 have HGS:Hid (w.heap.size≤gs):=Jh (by rw [hgs];exact HB5.out.size)
 rw [← hgs] at HS6 ⊢
 clear hgs hbs e1 HZ15 HZ25 HB5 a0 a1 a2 a3 a4 a5 a6 a7 b0 b1 b2 b3 b4 b5 b6 b7
 generalize w5.alloc (.cells #[.slice none 0 0,.slice none 0 0,.int .i64 0,.int .i64 0,.int .i64 0] 72)=w6 at *
 have a0:=HZ16.out.cell 0
 have a1:=HZ16.out.cell 1
 have a2:=HZ16.out.cell 2
 have a3:=HZ16.out.cell 3
 have a4:=HZ16.out.cell 4
 have a5:=HZ16.out.cell 5
 have a6:=HZ16.out.cell 6
 have a7:=HZ16.out.cell 7
 simp only [Ja,Jb,Jc] at a0 a1 a2 a3 a4 a5 a6 a7
 have HSw:=Jh (swapC w6 HS6.out (HE1.out w6 HB6.out) (Nat.le_trans HBw.out HB6.out.size) HGe1.out (by omega) (Nat.le_of_lt HS6.out.low.2))
 clear HE1
 go_wp2_with fail
 refine HSw.out.mono ?_
 rintro e w7 ⟨bs,rfl,hbt,hbf,hs7,hk7,hb7⟩
 have hv7:(if bs=true then (0:Int)+1 else 0)≤1:=by split<;>omega
 generalize hVV:(if bs=true then (0:Int)+1 else 0)=V at *
 clear hVV hbt hbf
 have HND:Hid ((swM zeroM x1).O.any (didB x2.by_)=false):=Jh ((sw_did HAg.out).trans rfl)
 generalize swM zeroM x1=M at *
 have HS7:=Jh hs7
 have HV7:=Jh hv7
 have HB7:=Jh (HB6.out.trans (hb7.mono HGS.out))
 have HZ27:=Jh (hk7.blk_ HZ26.out (by decide) (by decide))
 clear hs7 hk7 hb7 hv7 HSw HS6 HB6 HZ16 HZ26 HGe1 HAg a0 a1 a2 a3 a4 a5 a6 a7
 go_wp2_with fail
 refine (nowC w7 HS7.out).mono ?_
 rintro e w8 ⟨p8,rfl,hm8,hb8⟩
 obtain ⟨ZE,zE,ZM,zM,ZO,zO⟩:=p8
 have hb9:=hb8.trans ((Below.refl w8.heap.size w8).alloc (Nat.le_refl _) (.cells #[.int .i64 M.gen,.int .i64 M.cut,.int .i64 M.fence,.slice ZE M.E.length zE,.slice ZM M.M.length zM,.slice ZO M.O.length zO] 53) |>.mono hb8.size)
 have HM9:=Jh (hm8.below ((Below.refl w8.heap.size w8).alloc (Nat.le_refl _) (.cells #[.int .i64 M.gen,.int .i64 M.cut,.int .i64 M.fence,.slice ZE M.E.length zE,.slice ZM M.M.length zM,.slice ZO M.O.length zO] 53)))
 have HK9:=Jh (Blk.new w8 53 #[.int .i64 M.gen,.int .i64 M.cut,.int .i64 M.fence,.slice ZE M.E.length zE,.slice ZM M.M.length zM,.slice ZO M.O.length zO])
 have HS9:=Jh (HS7.out.below hb9)
 have HB9:=Jh (HB7.out.trans (hb9.mono HB7.out.size))
 have HZ29:=Jh (HZ27.out.below hb9 HZ27.out.lt)
 clear hm8 hb8 hb9 HS7 HB7 HZ27
 go_upto_region 6 with fail
 obtain ⟨g8,hg8⟩:∃ g8,g8=w8.heap.size:=⟨_,rfl⟩
 rw [← hg8] at HK9 ⊢
 clear hg8
 generalize w8.alloc (.cells #[.int .i64 M.gen,.int .i64 M.cut,.int .i64 M.fence,.slice ZE M.E.length zE,.slice ZM M.M.length zM,.slice ZO M.O.length zO] 53)=w9 at *
 obtain ⟨y0,y1,y2,y3,y4,y5⟩:w9.cell? ⟨g8,0,none⟩=some (.int .i64 M.gen)∧w9.cell? ⟨g8,1,none⟩=some (.int .i64 M.cut)∧w9.cell? ⟨g8,2,none⟩=some (.int .i64 M.fence)∧w9.cell? ⟨g8,3,none⟩=some (.slice ZE M.E.length zE)∧w9.cell? ⟨g8,4,none⟩=some (.slice ZM M.M.length zM)∧w9.cell? ⟨g8,5,none⟩=some (.slice ZO M.O.length zO):=⟨HK9.out.cell 0,HK9.out.cell 1,HK9.out.cell 2,HK9.out.cell 3,HK9.out.cell 4,HK9.out.cell 5⟩
 have b0:=HZ29.out.cell 0
 have b1:=HZ29.out.cell 1
 have b2:=HZ29.out.cell 2
 have b3:=HZ29.out.cell 3
 have b4:=HZ29.out.cell 4
 have b5:=HZ29.out.cell 5
 have b6:=HZ29.out.cell 6
 have b7:=HZ29.out.cell 7
 simp only [Ja,Jb,Jc] at b0 b1 b2 b3 b4 b5 b6 b7
 have HGM:=Jh HS9.out.gd
 have HAp:=Jh (applyR_calls w9 (HM9.out.good HGM.out.1) ((HE2.out w9 HB9.out).more (Nat.le_trans HBw.out HB9.out.size)) (Nat.le_refl _) HGM.out.1.short HGe2.out.short (by have:=HGe2.out.a;omega))
 go_wp2_with fail
 refine HAp.out.mono ?_
 rintro e w10 ⟨p9,rfl,hm10,hb10⟩
 obtain ⟨XE,xE,XM,xM,XO,xO⟩:=p9
 have HYG:Hid (appE M x2=0→Gd (appM M x2)∧rightB (appM M x2)=true):=Jh fun h=>⟨app_gd h HGM.out.1 HGe2.out,app_right h⟩
 have HYE:Hid (∀ s:Cst,s.d=x2→s.writes=false→∀ ver,sawS s M ver=if appE M x2≠0 then { s with read:=M,ver:=ver,st:=2,er:=appE M x2 } else { s with read:=M,ver:=ver,next:=appM M x2,writes:=true }):=Jh fun s hd _ ver=>by
  unfold sawS
  rw [hd,if_neg (by rw [HND.out];decide)]
 have HYN:Hid (appE M x2≠0→appM M x2=zeroM):=Jh fun h=>appM_no h
 generalize appM M x2=Y at *
 generalize appE M x2=ae at *
 have hb11:=hb10.trans ((Below.refl w10.heap.size w10).alloc (Nat.le_refl _) (.cells #[.int .i64 Y.gen,.int .i64 Y.cut,.int .i64 Y.fence,.slice XE Y.E.length xE,.slice XM Y.M.length xM,.slice XO Y.O.length xO] 53) |>.mono hb10.size)
 have HF0:Hid (Fz w (w10.alloc (.cells #[.int .i64 Y.gen,.int .i64 Y.cut,.int .i64 Y.fence,.slice XE Y.E.length xE,.slice XM Y.M.length xM,.slice XO Y.O.length xO] 53)) w7.heap.size M ⟨ZE,zE,ZM,zM,ZO,zO⟩ g8 w9.heap.size Y ⟨XE,xE,XM,xM,XO,xO⟩ w10.heap.size):=Jh ⟨HB9.out.trans (hb11.mono HB9.out.size),HM9.out.below hb11,HK9.out.below hb11 HK9.out.lt,hm10.below ((Below.refl w10.heap.size w10).alloc (Nat.le_refl _) _),Blk.new _ _ _⟩
 have HS11:=Jh (HS9.out.below hb11)
 have HZ211:=Jh (HZ29.out.below hb11 HZ29.out.lt)
 clear hm10 hb10 hb11 HAp HS9 HB9 HM9 HK9 HZ29 HND y0 y1 y2 y3 y4 y5 b0 b1 b2 b3 b4 b5 b6 b7
 go_upto_region 7 with fail
 obtain ⟨g9,hg9⟩:∃ g9,g9=w10.heap.size:=⟨_,rfl⟩
 rw [← hg9] at HF0 ⊢
 clear hg9
 generalize w10.alloc (.cells #[.int .i64 Y.gen,.int .i64 Y.cut,.int .i64 Y.fence,.slice XE Y.E.length xE,.slice XM Y.M.length xM,.slice XO Y.O.length xO] 53)=w11 at *
 have b0:=HZ211.out.cell 0
 have b1:=HZ211.out.cell 1
 have b2:=HZ211.out.cell 2
 have b3:=HZ211.out.cell 3
 have b4:=HZ211.out.cell 4
 have b5:=HZ211.out.cell 5
 have b6:=HZ211.out.cell 6
 have b7:=HZ211.out.cell 7
 simp only [Ja,Jb,Jc] at b0 b1 b2 b3 b4 b5 b6 b7
 by_cases hbad:tries<1∨8<tries∨(0:Int)<0∨1099511627776<(0:Int)
 ·have HN:=Jh (new_bad w11 (x:=x2) (q:=q2) tries 0 hbad)
  clear hbad
  go_wp2_with fail
  refine HN.out.mono ?_
  rintro e w12 ⟨rfl,hb12⟩
  have HF1:=Jh (HF0.out.on hb12)
  clear hb12 HN
  go_wp2
  go_ret
  exact ⟨rfl,HF1.out.below⟩
 have ht1:1≤tries:=by omega
 have ht8:tries≤8:=by omega
 have HN:=Jh (newP_calls w11 ((HE2.out w11 HF0.out.below).more (Nat.le_trans HBw.out HF0.out.below.size)) (Nat.le_refl _) HGe2.out tries 0 ht1 ht8 (by omega) (by omega))
 have HCin:Hid (Cin (newS x2 tries 0)):=Jh ⟨⟨HGe2.out,Gd.zero,Gd.zero,⟨ht1,ht8⟩,⟨by show (0:Int)≤0;omega,by show (0:Int)≤_;omega⟩,fun _=>(by show ((0:Nat):Int)<tries;omega),fun h=>(by cases h),fun _=>rfl⟩,fun h=>(by cases h)⟩
 clear hbad ht1 ht8
 go_wp2_with fail
 refine HN.out.mono ?_
 rintro e w12 ⟨gc,qc,rfl,hc12,hb12⟩
 have HF2:=Jh (HF0.out.on hb12)
 have HS12:=Jh (HS11.out.below hb12)
 have HC12:=Jh hc12
 have HGC:Hid (w.heap.size≤w11.heap.size∧0<w11.heap.size):=Jh ⟨HF0.out.below.size,by have:=HS11.out.low;omega⟩
 generalize w11.heap.size=bc at *
 clear hc12 hb12 HN HE2 HF0 HS11 HZ211 b0 b1 b2 b3 b4 b5 b6 b7
 have HAsk:Hid (∀ s:Cst,Cin s→s.st=0→Cin { s with asked:=true }):=Jh fun s h h0=>⟨⟨h.g.ge,h.g.read,h.g.next,h.g.tries,h.g.wait,h.g.fails,fun _=>h0,h.g.er⟩,h.right⟩
 go_wp2
 go_loopw [13,63] (fun vn vk wr=>∃ (k:Nat) (s:Cst) (MM:Md) (V':Int) (pr pn:Pl),vk=.int .i64 (k:Int)∧vn=.int .i64 (k:Int)∧Hid (Stage x2 tries M V Y ae k s MM V')∧Hid (CmAt wr bc gc s qc pr pn)∧Hid (StM wr gs gs MM V' 0)∧Hid (Fz w wr w7.heap.size M ⟨ZE,zE,ZM,zM,ZO,zO⟩ g8 w9.heap.size Y ⟨XE,xE,XM,xM,XO,xO⟩ g9)) (fun _ vk _=>5-(intOf vk).toNat)
 case atStart=>exact ⟨0,newS x2 tries 0,M,V,nilP,nilP,rfl,rfl,Jh .start,HC12,HS12,HF2⟩
 case round =>
  obtain ⟨k,s,MM,V',pr,pn,rfl,rfl,HSt,HC,HS,HF⟩:=hrel
  clear HC12 HS12 HF2
  have hst:=HSt.out
  clear HSt
  cases hst with
  | start =>
   clear HYN
   have HX:=Jh (next_get wr HC.out 0 rfl rfl)
   go_wp2_with fail
   refine HX.out.mono ?_
   rintro e wa ⟨rfl,hca,hoa⟩
   have hfa:=HF.out.only hoa HC.out.blk (Nat.le_trans HGC.out.1 HC.out.low)
   have hsa:=HS.out.other hoa HC.out.blk (by decide) (by decide) (by decide)
   have hbb:=(Below.refl wa.heap.size wa).alloc (Nat.le_refl _) (.cells getCall 35)
   have HCb:=Jh (hca.below hbb)
   have HSb:=Jh (hsa.below hbb)
   have HFb:=Jh (hfa.on hbb)
   have HXb:=Jh (Blk.new wa 35 getCall)
   clear hca hoa hfa hsa hbb HX HC HS HF
   go_upto_region 16 with fail
   obtain ⟨gx,hgx⟩:∃ gx,gx=wa.heap.size:=⟨_,rfl⟩
   rw [← hgx] at HXb ⊢
   clear hgx
   generalize wa.alloc (.cells getCall 35)=wb at *
   have c0:=HXb.out.cell 0
   have c1:=HXb.out.cell 1
   have c2:=HXb.out.cell 2
   have c3:=HXb.out.cell 3
   have c4:=HXb.out.cell 4
   have c5:=HXb.out.cell 5
   have c6:=HXb.out.cell 6
   simp only [Ja,Jb,Jc] at c0 c1 c2 c3 c4 c5 c6
   have HGt:=Jh (getC wb HSb.out)
   go_wp2_with fail
   refine HGt.out.mono ?_
   rintro e wc ⟨err,A,c,d,born,rfl,hown,hbc,hdl,hcase⟩
   have HCc:=Jh (HCb.out.below hbc)
   have HSc:=Jh (HSb.out.below hbc)
   have HFc:=Jh (HFb.out.on hbc)
   have HOw:=Jh hown
   have HCs:=Jh hcase
   clear hown hbc hcase HCb HSb HFb HXb HGt c0 c1 c2 c3 c4 c5 c6
   have HTk:=Jh (takeP_any HGC.out.2 wc (HSh.out _ HFc.out.below) HCc.out (HAsk.out _ HCin.out rfl) A c V (.int .i64 born) (.int .i64 0) (.slice none 0 0) (.bool false) 0 err d (fun w' ho=>own_bytes (own_free HOw.out ho HCc.out.blk (by decide))) (own_capn HOw.out) (by omega) (by omega) (by omega))
   go_wp2_with fail
   refine HTk.out.mono ?_
   rintro e wd ⟨rfl,⟨pr',pn',hcd⟩,hod⟩
   have hci:=(HAsk.out _ HCin.out rfl).take (s:={ newS x2 tries 0 with asked:=true }) rfl err d V 0
   have htk:takeT takeS { newS x2 tries 0 with asked:=true } err d V 0=takeS { newS x2 tries 0 with asked:=true } err d V 0:=if_pos rfl
   rw [← htk,take_get rfl rfl HCs.out] at hci
   rw [take_get rfl rfl HCs.out] at hcd
   rw [HYE.out _ rfl rfl] at hcd hci
   have HSd:=Jh (HSc.out.other hod HCc.out.blk (by decide) (by decide) (by decide))
   have HFd:=Jh (HFc.out.only hod HCc.out.blk (Nat.le_trans HGC.out.1 HCc.out.low))
   clear hod htk HTk HCc HSc HFc HOw HCs
   by_cases h0:ae=0
   ·rw [if_neg (by omega)] at hcd hci
    have HR:=Jh (And.intro hcd hci)
    have HH:=Jh h0
    clear hcd hci h0
    go_wp2
    go_roundw
    case rel=>exact ⟨1,_,M,V,pr',pn',by go_num,by go_num,Jh (.writes _ HH.out rfl rfl rfl rfl rfl rfl HR.out.2),Jh HR.out.1,HSd,HFd⟩
    case measure=>simp [intOf]
   ·rw [if_pos h0] at hcd hci
    have HR:=Jh (And.intro hcd hci)
    have HH:=Jh h0
    clear hcd hci h0
    go_wp2
    go_roundw
    case rel=>exact ⟨1,_,M,V,pr',pn',by go_num,by go_num,Jh (.refused _ HH.out rfl rfl HR.out.2),Jh HR.out.1,HSd,HFd⟩
    case measure=>simp [intOf]
  | refused s hae h2 he hci =>
   have HX:=Jh (next_no wr HC.out 0 (decide_eq_false fun h=>by rw [h2] at h;exact absurd h.1 (by decide)))
   have HH:=Jh hae
   have HSt:=Jh (And.intro h2 he)
   clear hae h2 he hci
   go_wp2_with fail
   refine HX.out.mono ?_
   rintro e wa ⟨rfl,hba⟩
   have hbb:=hba.trans ((Below.refl wa.heap.size wa).alloc (Nat.le_refl _) (.cells zeroCall 35) |>.mono hba.size)
   have HCb:=Jh (HC.out.below hbb)
   have HSb:=Jh (HS.out.below hbb)
   have HFb:=Jh (HF.out.on hbb)
   clear hba hbb HX HC HS HF
   have HSp:=stateP_calls _ HCb.out
   rw [HSt.out.1,HSt.out.2] at HSp
   have HSp:=Jh HSp
   go_wp2_with fail
   generalize wa.alloc (.cells zeroCall 35)=wb at *
   refine HSp.out.mono ?_
   rintro e wc ⟨rfl,hbc⟩
   have HSc:=Jh (HSb.out.below hbc)
   have HFc:=Jh (HFb.out.on hbc)
   clear hbc HSp HCb HSb HFb HSt
   go_wp2_with fail
   refine (nowC wc HSc.out).mono ?_
   rintro e wd ⟨pz,rfl,hmo,hbd⟩
   obtain ⟨UE,uE,UM,uM,UO,uO⟩:=pz
   have hbe:=hbd.trans ((Below.refl wd.heap.size wd).alloc (Nat.le_refl _) (.cells #[.int .i64 M.gen,.int .i64 M.cut,.int .i64 M.fence,.slice UE M.E.length uE,.slice UM M.M.length uM,.slice UO M.O.length uO] 53) |>.mono hbd.size)
   have HMe:=Jh (hmo.below ((Below.refl wd.heap.size wd).alloc (Nat.le_refl _) (.cells #[.int .i64 M.gen,.int .i64 M.cut,.int .i64 M.fence,.slice UE M.E.length uE,.slice UM M.M.length uM,.slice UO M.O.length uO] 53)))
   have HKe:=Jh (Blk.new wd 53 #[.int .i64 M.gen,.int .i64 M.cut,.int .i64 M.fence,.slice UE M.E.length uE,.slice UM M.M.length uM,.slice UO M.O.length uO])
   have HFe:=Jh (HFc.out.on hbe)
   clear hmo hbd hbe HSc HFc
   go_upto_region 20 with fail
   obtain ⟨gz,hgz⟩:∃ gz,gz=wd.heap.size:=⟨_,rfl⟩
   rw [← hgz] at HKe ⊢
   clear hgz
   generalize wd.alloc (.cells #[.int .i64 M.gen,.int .i64 M.cut,.int .i64 M.fence,.slice UE M.E.length uE,.slice UM M.M.length uM,.slice UO M.O.length uO] 53)=we at *
   obtain ⟨y0,y1,y2,y3,y4,y5⟩:we.cell? ⟨gz,0,none⟩=some (.int .i64 M.gen)∧we.cell? ⟨gz,1,none⟩=some (.int .i64 M.cut)∧we.cell? ⟨gz,2,none⟩=some (.int .i64 M.fence)∧we.cell? ⟨gz,3,none⟩=some (.slice UE M.E.length uE)∧we.cell? ⟨gz,4,none⟩=some (.slice UM M.M.length uM)∧we.cell? ⟨gz,5,none⟩=some (.slice UO M.O.length uO):=⟨HKe.out.cell 0,HKe.out.cell 1,HKe.out.cell 2,HKe.out.cell 3,HKe.out.cell 4,HKe.out.cell 5⟩
   have hk8:=HFe.out.k8
   obtain ⟨z0,z1,z2,z3,z4,z5⟩:we.cell? ⟨g8,0,none⟩=some (.int .i64 M.gen)∧we.cell? ⟨g8,1,none⟩=some (.int .i64 M.cut)∧we.cell? ⟨g8,2,none⟩=some (.int .i64 M.fence)∧we.cell? ⟨g8,3,none⟩=some (.slice ZE M.E.length zE)∧we.cell? ⟨g8,4,none⟩=some (.slice ZM M.M.length zM)∧we.cell? ⟨g8,5,none⟩=some (.slice ZO M.O.length zO):=⟨hk8.cell 0,hk8.cell 1,hk8.cell 2,hk8.cell 3,hk8.cell 4,hk8.cell 5⟩
   have q1:(ae != 0)=true:=net HH.out
   have q2:(ae == ae)=true:=beq_self_eq_true _
   have HSm:=Jh (sameM_calls we (HMe.out.good HGM.out.1) (HFe.out.m8.good HGM.out.1) (Nat.le_refl _) (Nat.le_refl _))
   clear hk8
   go_wp2_with fail
   refine HSm.out.mono ?_
   rintro e wf ⟨rfl,hbf⟩
   rw [same_self]
   have HFf:=Jh (HFe.out.on hbf)
   clear hbf HSm HFe y0 y1 y2 y3 y4 y5 z0 z1 z2 z3 z4 z5
   go_wp2
   go_ret
   exact ⟨rfl,HFf.out.below⟩
  | writes s hae h0 ha hdue hw hver hnx hci =>
   have hnb:nextB s 0=true:=decide_eq_true ⟨h0,ha,by rw [hdue];decide⟩
   have HX:=Jh (next_put (enc:=encD) (er:=encEr) (fun w B m p h hB hs hm=>enc_calls w h hB hs hm) HGC.out.2 wr HC.out 0 hnb hw hci.g.next (HSh.out _ HF.out.below))
   have hry:=hci.right hw
   have HH:=Jh hae
   have HE:=Jh (show encD s.next=encB s.next by unfold encD;rw [if_pos hry])
   have HSs:=Jh (And.intro h0 (And.intro hver (And.intro hnx (And.intro hry (And.intro hci hw)))))
   clear hnb hry hae h0 ha hdue hw hver hnx hci
   go_wp2_with fail
   refine HX.out.mono ?_
   rintro e wa ⟨A,c,rfl,hown,hca,hoa⟩
   rw [HE.out] at hown ⊢
   have hfa:=HF.out.only hoa HC.out.blk (Nat.le_trans HGC.out.1 HC.out.low)
   have hsa:=HS.out.other hoa HC.out.blk (by decide) (by decide) (by decide)
   have hbb:=(Below.refl wa.heap.size wa).alloc (Nat.le_refl _) (.cells (putCall A (encB s.next).length c s.ver) 35)
   have HCb:=Jh (hca.below hbb)
   have HSb:=Jh (hsa.below hbb)
   have HFb:=Jh (hfa.on hbb)
   have HOb:=Jh (own_below hown hbb)
   have HXb:=Jh (Blk.new wa 35 (putCall A (encB s.next).length c s.ver))
   clear hca hoa hfa hsa hbb hown HX HC HS HF
   go_upto_region 16 with fail
   obtain ⟨gx,hgx⟩:∃ gx,gx=wa.heap.size:=⟨_,rfl⟩
   rw [← hgx] at HXb ⊢
   clear hgx
   generalize wa.alloc (.cells (putCall A (encB s.next).length c s.ver) 35)=wb at *
   have c0:=HXb.out.cell 0
   have c1:=HXb.out.cell 1
   have c2:=HXb.out.cell 2
   have c3:=HXb.out.cell 3
   have c4:=HXb.out.cell 4
   have c5:=HXb.out.cell 5
   have c6:=HXb.out.cell 6
   simp only [Ja,Jb,Jc] at c0 c1 c2 c3 c4 c5 c6
   have HPt:=Jh (putC wb HSb.out (A:=A) (c:=c) (d:=encB s.next) rfl HOb.out rfl HSs.out.2.2.2.1 HSs.out.2.2.2.2.1.g.next s.ver HSs.out.2.1 (by have:=HV7.out;omega) (Nat.le_of_lt HSb.out.low.2))
   generalize (encB s.next).length=nY at *
   go_wp2_with fail
   refine HPt.out.mono ?_
   rintro e wc ⟨rfl,hsc,hkc,hbc⟩
   have HCc:=Jh (HCb.out.kt hkc)
   have HSc:=Jh hsc
   have HFc:=Jh (HFb.out.kt hkc hbc HGS.out)
   clear hsc hkc hbc HCb HSb HFb HOb HXb HPt c0 c1 c2 c3 c4 c5 c6
   have HTk:=Jh (takeP_any HGC.out.2 wc (HSh.out _ HFc.out.below) HCc.out (HAsk.out _ HSs.out.2.2.2.2.1 HSs.out.1) none 0 (V+1) (.int .i64 0) (.int .i64 0) (.slice none 0 0) (.bool false) 0 0 [] (fun w' ho=>.of Reads.none_) (Nat.le_refl _) (by decide) (by omega) (by omega))
   go_wp2_with fail
   refine HTk.out.mono ?_
   rintro e wd ⟨rfl,⟨pr',pn',hcd⟩,hod⟩
   have hci:=(HAsk.out _ HSs.out.2.2.2.2.1 HSs.out.1).take (s:={ s with asked:=true }) rfl 0 [] (V+1) 0
   have htk:takeT takeS { s with asked:=true } 0 [] (V+1) 0=takeS { s with asked:=true } 0 [] (V+1) 0:=if_pos rfl
   have hmk:=take_made (s:={ s with asked:=true }) rfl HSs.out.2.2.2.2.2 (d:=[]) (ver:=V+1) (now:=0)
   rw [← htk,hmk] at hci
   rw [hmk] at hcd
   have HSd:=Jh (HSc.out.other hod HCc.out.blk (by decide) (by decide) (by decide))
   have HFd:=Jh (HFc.out.only hod HCc.out.blk (Nat.le_trans HGC.out.1 HCc.out.low))
   have HR:=Jh (And.intro hcd hci)
   clear hod htk hmk hcd hci HTk HCc HSc HFc
   go_wp2
   go_roundw
   case rel=>exact ⟨2,_,Y,V+1,pr',pn',by go_num,by go_num,Jh (.done _ HH.out rfl HSs.out.2.2.1 HR.out.2),Jh HR.out.1,Jh (by rw [← HSs.out.2.2.1];exact HSd.out),HFd⟩
   case measure=>simp [intOf]
  | done s hae h1 hrd hci =>
   have her:s.er=s.er:=rfl
   have HX:=Jh (next_no wr HC.out 0 (decide_eq_false fun h=>by rw [h1] at h;exact absurd h.1 (by decide)))
   have HH:=Jh hae
   have HSt:=Jh (And.intro h1 (And.intro hrd hci))
   have HGY:Hid (Gd Y):=Jh (HYG.out hae).1
   clear hae h1 hrd hci her
   go_wp2_with fail
   refine HX.out.mono ?_
   rintro e wa ⟨rfl,hba⟩
   have hbb:=hba.trans ((Below.refl wa.heap.size wa).alloc (Nat.le_refl _) (.cells zeroCall 35) |>.mono hba.size)
   have HCb:=Jh (HC.out.below hbb)
   have HSb:=Jh (HS.out.below hbb)
   have HFb:=Jh (HF.out.on hbb)
   clear hba hbb HX HC HS HF
   have HSp:=stateP_calls _ HCb.out
   rw [HSt.out.1] at HSp
   have HSp:=Jh HSp
   go_wp2_with fail
   generalize wa.alloc (.cells zeroCall 35)=wb at *
   refine HSp.out.mono ?_
   rintro e wc ⟨rfl,hbc⟩
   have HCc:=Jh (HCb.out.below hbc)
   have HSc:=Jh (HSb.out.below hbc)
   have HFc:=Jh (HFb.out.on hbc)
   clear hbc HSp HCb HSb HFb
   go_wp2_with fail
   refine (nowC wc HSc.out).mono ?_
   rintro e wd ⟨pz,rfl,hmo,hbd⟩
   obtain ⟨UE,uE,UM,uM,UO,uO⟩:=pz
   have hbe:=hbd.trans ((Below.refl wd.heap.size wd).alloc (Nat.le_refl _) (.cells #[.int .i64 Y.gen,.int .i64 Y.cut,.int .i64 Y.fence,.slice UE Y.E.length uE,.slice UM Y.M.length uM,.slice UO Y.O.length uO] 53) |>.mono hbd.size)
   have HMe:=Jh (hmo.below ((Below.refl wd.heap.size wd).alloc (Nat.le_refl _) (.cells #[.int .i64 Y.gen,.int .i64 Y.cut,.int .i64 Y.fence,.slice UE Y.E.length uE,.slice UM Y.M.length uM,.slice UO Y.O.length uO] 53)))
   have HKe:=Jh (Blk.new wd 53 #[.int .i64 Y.gen,.int .i64 Y.cut,.int .i64 Y.fence,.slice UE Y.E.length uE,.slice UM Y.M.length uM,.slice UO Y.O.length uO])
   have HFe:=Jh (HFc.out.on hbe)
   have HCe:=Jh (HCc.out.below hbe)
   clear hmo hbd hbe HSc HFc HCc
   go_upto_region 20 with fail
   obtain ⟨gz,hgz⟩:∃ gz,gz=wd.heap.size:=⟨_,rfl⟩
   rw [← hgz] at HKe ⊢
   clear hgz
   generalize wd.alloc (.cells #[.int .i64 Y.gen,.int .i64 Y.cut,.int .i64 Y.fence,.slice UE Y.E.length uE,.slice UM Y.M.length uM,.slice UO Y.O.length uO] 53)=we at *
   have q1:(ae != 0)=false:=nef HH.out
   have HK2:Hid (∀ W,Below we.heap.size we W→((W.cell? ⟨gz,0,none⟩=some (.int .i64 Y.gen)∧W.cell? ⟨gz,1,none⟩=some (.int .i64 Y.cut)∧W.cell? ⟨gz,2,none⟩=some (.int .i64 Y.fence)∧W.cell? ⟨gz,3,none⟩=some (.slice UE Y.E.length uE)∧W.cell? ⟨gz,4,none⟩=some (.slice UM Y.M.length uM)∧W.cell? ⟨gz,5,none⟩=some (.slice UO Y.O.length uO))∧(W.cell? ⟨g9,0,none⟩=some (.int .i64 Y.gen)∧W.cell? ⟨g9,1,none⟩=some (.int .i64 Y.cut)∧W.cell? ⟨g9,2,none⟩=some (.int .i64 Y.fence)∧W.cell? ⟨g9,3,none⟩=some (.slice XE Y.E.length xE)∧W.cell? ⟨g9,4,none⟩=some (.slice XM Y.M.length xM)∧W.cell? ⟨g9,5,none⟩=some (.slice XO Y.O.length xO)))):=Jh fun W hW=>by
    have h1:=HKe.out.below hW HKe.out.lt
    have h2:=HFe.out.k9.below hW HFe.out.k9.lt
    exact ⟨⟨h1.cell 0,h1.cell 1,h1.cell 2,h1.cell 3,h1.cell 4,h1.cell 5⟩,h2.cell 0,h2.cell 1,h2.cell 2,h2.cell 3,h2.cell 4,h2.cell 5⟩
   have HSA:Hid (∀ W,Below we.heap.size we W→Calls Tryz.prog 14 #[mdV Y ⟨UE,uE,UM,uM,UO,uO⟩,mdV Y ⟨XE,xE,XM,xM,XO,xO⟩] W fun e w'=>e=.returned (.bool true)∧Below W.heap.size W w'):=Jh fun W hW=>by
    refine (sameM_calls W ((HMe.out.below hW).good HGY.out) ((HFe.out.on hW).m9.good HGY.out) (Nat.le_refl _) (Nat.le_refl _)).mono ?_
    rintro e w' ⟨rfl,hb⟩
    exact ⟨by rw [same_self],hb⟩
   have HSB:Hid (∀ W (b:Nat) (pz:Pl),Below we.heap.size we W→Mow W b Y pz→Calls Tryz.prog 14 #[mdV Y pz,mdV Y ⟨XE,xE,XM,xM,XO,xO⟩] W fun e w'=>e=.returned (.bool true)∧Below W.heap.size W w'):=Jh fun W b pz hW hmo=>by
    refine (sameM_calls W (hmo.good HGY.out) ((HFe.out.on hW).m9.good HGY.out) (Nat.le_refl _) (Nat.le_refl _)).mono ?_
    rintro e w' ⟨rfl,hb⟩
    exact ⟨by rw [same_self],hb⟩
   have HMn:Hid (∀ W,Below we.heap.size we W→Calls Tryz.prog 15 #[.pointer (some ⟨gc,0,none⟩)] W fun e w'=>∃ pz,e=.returned (mdV Y pz)∧Mow w' W.heap.size Y pz∧Below W.heap.size W w'):=Jh fun W hW=>by
    have h:=manP_calls W (HCe.out.below hW) HSt.out.2.2.g.read
    rw [HSt.out.2.1] at h
    exact h
   have HW1:Hid (Below we.heap.size we we.drew):=Jh (below_drewN_ (Below.refl _ _) 1)
   have hd:∀ a b c:Prop,True:=fun _ _ _=>trivial
   clear hd HSt HCin HYE HYG HYN
   go_upto_region 22 with fail
   refine wp_region_T 99 (fun w'=>((w'.cell? ⟨gz,0,none⟩=some (.int .i64 Y.gen)∧w'.cell? ⟨gz,1,none⟩=some (.int .i64 Y.cut)∧w'.cell? ⟨gz,2,none⟩=some (.int .i64 Y.fence)∧w'.cell? ⟨gz,3,none⟩=some (.slice UE Y.E.length uE)∧w'.cell? ⟨gz,4,none⟩=some (.slice UM Y.M.length uM)∧w'.cell? ⟨gz,5,none⟩=some (.slice UO Y.O.length uO))∧(w'.cell? ⟨g9,0,none⟩=some (.int .i64 Y.gen)∧w'.cell? ⟨g9,1,none⟩=some (.int .i64 Y.cut)∧w'.cell? ⟨g9,2,none⟩=some (.int .i64 Y.fence)∧w'.cell? ⟨g9,3,none⟩=some (.slice XE Y.E.length xE)∧w'.cell? ⟨g9,4,none⟩=some (.slice XM Y.M.length xM)∧w'.cell? ⟨g9,5,none⟩=some (.slice XO Y.O.length xO)))) (by kernel_rfl) (HK2.out _ (below_drewN_ (Below.refl _ _) 1)) (fun hHeld=>?_)
   generalize we.drew=u0 at *
   apply tkT 0
   apply tkT 1
   apply tkT 2
   apply tkT 3
   apply tkT 4
   apply tkT 5
   apply tkT 6
   apply tkT 7
   apply tkT 8
   refine wpAnyT_one (i:=9) (by kernel_rfl) rfl (fun K hK=>?_);go_simp
   refine (HSA.out _ HW1.out).mono ?_
   rintro e wf ⟨rfl,hbf⟩
   have HEF:=Jh (HW1.out.trans (hbf.mono HW1.out.size))
   have hSf:=HK2.out _ HEF.out
   refine hK.out _ _ (fun _=>hSf) ?_
   clear hK K hHeld hbf
   (try simp only [Act.put,Jk,Jg,Ji,Jd,Je,Jf])
   apply tkT 10
   apply tkT 11
   apply tkT 12
   apply tkT 14
   refine wpAnyT_one (i:=13) (by kernel_rfl) rfl (fun K hK=>?_);go_simp
   refine (HMn.out _ HEF.out).mono ?_
   rintro e wg ⟨pz2,rfl,hmo2,hbg⟩
   have HEG:=Jh (HEF.out.trans (hbg.mono HEF.out.size))
   have HM2:=Jh hmo2
   have hSg:=HK2.out _ HEG.out
   refine hK.out _ _ (fun _=>hSg) ?_
   clear hK K hSf hbg hmo2
   (try simp only [Act.put,Jk,Jg,Ji,Jd,Je,Jf])
   refine wpAnyT_one (i:=15) (by kernel_rfl) rfl (fun K hK=>?_);go_simp
   refine (HSB.out _ _ _ HEG.out HM2.out).mono ?_
   rintro e wh ⟨rfl,hbh⟩
   have HEH:=Jh (HEG.out.trans (hbh.mono HEG.out.size))
   have hSh:=HK2.out _ HEH.out
   refine hK.out _ _ (fun _=>hSh) ?_
   clear hK K hSg hbh
   (try simp only [Act.put,Jk,Jg,Ji,Jd,Je,Jf])
   apply tkT 16
   apply tkT 17
   refine wpAnyT_done (by kernel_rfl) ?_ _
   have HFh:=Jh (HFe.out.on HEH.out)
   clear hSh HK2 HSA HSB HMn q1
   go_wp2
   go_ret
   exact ⟨rfl,HFh.out.below⟩
theorem walk {H:Type} {enc:TypeId × Value→H} {W:World} {base:Nat} {v0 v1 v2:Value} {d0 d1 d2:DataW H} {p0 p1 p2:List MemPlace} (hsh:W.ShapedOpen Tryz.prog) (g0:Arg enc Tryz.prog W base 28 v0 d0 p0) (g1:Arg enc Tryz.prog W base 28 v1 d1 p1) (g2:Arg enc Tryz.prog W base 3 v2 d2 p2) :
  Calls Tryz.prog 6 #[v0,v1,v2] W fun e w'=>e=.returned (.bool true)∧Below W.heap.size W w':=by
 obtain ⟨x1,q1,rfl,hE1⟩:=arg_edit g0
 obtain ⟨x2,q2,rfl,hE2⟩:=arg_edit g1
 obtain ⟨tries,rfl,-,_⟩:=g2.int Tryz.underlying3
 exact body W hE1 hE2 (Nat.le_refl _) tries (var0 hsh)
end Go.Proofs.YtibnehaibgbliaaGreat.lawCommitCalm
