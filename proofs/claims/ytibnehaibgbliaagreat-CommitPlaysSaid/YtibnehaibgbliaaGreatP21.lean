/- Laws for the row's walk. -/
import Derived.Test.YtibnehaibgbliaaGreatP20
set_option linter.unusedVariables false
set_option linter.unusedSimpArgs false
open Go.Lib renaming hid → Jh
open List renaming getElem?_toArray → Ja, getElem?_cons_zero → Jb, getElem?_cons_succ → Jc, setIfInBounds_toArray → Jd, set_cons_zero → Je, set_cons_succ → Jf, getElem_cons_zero → Jg, getElem_cons_succ → Ji, getElem_toArray → Jk
namespace Go.Proofs.YtibnehaibgbliaaGreat.Mf
open Go.RowKit Go.Proofs.YtibnehaibgbliaaGreat
section
variable {base g:Nat} {s:Cst} {q:Pd} {pr pn:Pl}
set_option maxRecDepth 100000 in
set_option maxHeartbeats 6400000 in
theorem takeR_none (hap:ApplyRC) (hdid:DidRC) (hge:Ge s.d) (w:World) (h:DmAt w base g s q pr pn) (ha:s.asked=true) (hw:s.writes=false) (A:Option Addr) (n c:Nat) (ver:Int) (r3 r4 r5 r6:Value) (now:Int) (err:Int) (he:Hid (err=7)) (s9:Cst) (hs9:Hid (s9=sawD { s with asked:=false } zeroM 0)) :
  Calls Tryz.prog 20 #[.pointer (some ⟨g,0,none⟩),.agg (repA err A n c ver r3 r4 r5 r6),.int .i64 now] w (qb0 w base g s9 q):=by
 have h2:=h.blk.alloc (.cells (repA err A n c ver r3 r4 r5 r6) 42)
 have z0:=h2.cell 11
 have f0:=h2.frozen 11
 have b3:=h2.set_ 11 (.bool false)
 simp only [Jd,Je,Jf] at b3
 simp only [Ja,Jb,Jc] at z0
 rw [ha] at z0
 have hne:g≠w.heap.size:=by have:=h.blk.lt;omega
 have hr:=(Blk.new w 42 (repA err A n c ver r3 r4 r5 r6)).far (p:=⟨g,11,none⟩) (Ne.symm hne) (.bool false)
 have ho:Only g w ((w.alloc (.cells (repA err A n c ver r3 r4 r5 r6) 42)).setCell ⟨g,11,none⟩ (.bool false)):=((Only.refl g w).alloc _).setCell (.inl rfl) _
 have HC:=Jh (h.put ho (s':={ s with asked:=false }) b3 rfl (h.read_ ho) (h.next_ ho))
 have HR:=Jh hr
 have HO:=Jh ho
 have HN:=Jh hne
 have HWr:=Jh hw
 clear h h2 b3 hr hne ho hw
 go_enter Tryz.func20,Tryz.ntmps20
 go_upto_region 4 with fail
 obtain ⟨gr,hgr⟩:∃ gr,gr=w.heap.size:=⟨_,rfl⟩
 rw [← hgr] at HR HN ⊢
 clear hgr z0 f0
 generalize (w.alloc (.cells (repA err A n c ver r3 r4 r5 r6) 42)).setCell ⟨g,11,none⟩ (.bool false)=w3 at *
 have r0:=HR.out.cell 0
 simp only [Ja,Jb,Jc] at r0
 have y10:w3.cell? ⟨g,10,none⟩=some (.bool s.writes):=HC.out.blk.cell 10
 rw [HWr.out] at y10
 obtain rfl:=he.out
 go_upto_region 17 with fail
 have hx0:=Blk.new w3 53 #[.int .i64 0,.int .i64 0,.int .i64 0,.slice none 0 0,.slice none 0 0,.slice none 0 0]
 have hb0:=(Below.refl w3.heap.size w3).alloc (Nat.le_refl _) (.cells #[.int .i64 0,.int .i64 0,.int .i64 0,.slice none 0 0,.slice none 0 0,.slice none 0 0] 53)
 have HC7:=Jh (HC.out.below hb0)
 have HR7:=Jh (HR.out.below hb0 HR.out.lt)
 have HO7:=Jh (HO.out.trans (Only.of_below hb0))
 obtain ⟨gm,hgm2⟩:∃ gm,gm=w3.heap.size:=⟨_,rfl⟩
 have HGm:Hid (w.heap.size≤gm∧gr<gm):=Jh ⟨by have:=HO.out.size;omega,by have:=HR.out.lt;omega⟩
 rw [← hgm2] at hx0 ⊢
 have HX7:=Jh hx0
 clear hgm2 hx0 hb0 r0 y10 HC HR HO
 generalize w3.alloc (.cells #[.int .i64 0,.int .i64 0,.int .i64 0,.slice none 0 0,.slice none 0 0,.slice none 0 0] 53)=w7 at *
 have r0:=HR7.out.cell 0
 simp only [Ja,Jb,Jc] at r0
 go_upto_region 28 with fail
 clear r0
 obtain ⟨M,hM⟩:∃ M,M=zeroM:=⟨_,rfl⟩
 obtain ⟨p,hp⟩:∃ p,p=nilP:=⟨_,rfl⟩
 have HX8:Hid (Blk w7 gm 53 #[.int .i64 M.gen,.int .i64 M.cut,.int .i64 M.fence,.slice p.AE M.E.length p.cE,.slice p.AM M.M.length p.cM,.slice p.AO M.O.length p.cO]):=Jh (by rw [hM,hp];exact HX7.out)
 have HM8:Hid (Mow w7 base M p):=Jh (by rw [hM,hp];exact Mow.zero _ _)
 have hgM:Gd M:=by rw [hM];exact Gd.zero
 have HTg:Hid (s9=sawD { s with asked:=false } M 0):=Jh (by rw [hM];exact hs9.out)
 have HNg:Hid (gm≠g):=Jh (HX7.out.ne_ HC7.out.blk (by decide))
 obtain ⟨w8,rfl⟩:∃ w8:World,w8=w7:=⟨_,rfl⟩
 have HC8:=HC7
 have HO8:=HO7
 clear hM hp HX7 HC7 HO7
 have x0:=HX8.out.cell 0
 have x1:=HX8.out.cell 1
 have x2:=HX8.out.cell 2
 have x3:=HX8.out.cell 3
 have x4:=HX8.out.cell 4
 have x5:=HX8.out.cell 5
 simp only [Ja,Jb,Jc] at x0 x1 x2 x3 x4 x5
 have f15:=HC8.out.blk.frozen 15
 have y15:=HC8.out.blk.cell 15
 have f16:=HC8.out.blk.frozen 16
 have y16:=HC8.out.blk.cell 16
 have f17:=HC8.out.blk.frozen 17
 have y17:=HC8.out.blk.cell 17
 have f18:=HC8.out.blk.frozen 18
 have y18:=HC8.out.blk.cell 18
 have f19:=HC8.out.blk.frozen 19
 have y19:=HC8.out.blk.cell 19
 have f20:=HC8.out.blk.frozen 20
 have y20:=HC8.out.blk.cell 20
 have f14:=HC8.out.blk.frozen 14
 have y14:=HC8.out.blk.cell 14
 simp only [Ja,Jb,Jc] at y15 y16 y17 y18 y19 y20 y14
 have b_9:=(((((((HC8.out.blk.set_ 15 (.int .i64 M.gen)).set_ 16 (.int .i64 M.cut)).set_ 17 (.int .i64 M.fence)).set_ 18 (.slice p.AE M.E.length p.cE)).set_ 19 (.slice p.AM M.M.length p.cM)).set_ 20 (.slice p.AO M.O.length p.cO)).set_ 14 (.int .i64 0))
 simp only [Jd,Je,Jf] at b_9
 have ho_9:Only g w8 (((((((w8.setCell ⟨g,15,none⟩ (.int .i64 M.gen)).setCell ⟨g,16,none⟩ (.int .i64 M.cut)).setCell ⟨g,17,none⟩ (.int .i64 M.fence)).setCell ⟨g,18,none⟩ (.slice p.AE M.E.length p.cE)).setCell ⟨g,19,none⟩ (.slice p.AM M.M.length p.cM)).setCell ⟨g,20,none⟩ (.slice p.AO M.O.length p.cO)).setCell ⟨g,14,none⟩ (.int .i64 0)):=(((((((Only.refl g w8).setCell (p:=⟨g,15,none⟩) (.inl rfl) (.int .i64 M.gen)).setCell (p:=⟨g,16,none⟩) (.inl rfl) (.int .i64 M.cut)).setCell (p:=⟨g,17,none⟩) (.inl rfl) (.int .i64 M.fence)).setCell (p:=⟨g,18,none⟩) (.inl rfl) (.slice p.AE M.E.length p.cE)).setCell (p:=⟨g,19,none⟩) (.inl rfl) (.slice p.AM M.M.length p.cM)).setCell (p:=⟨g,20,none⟩) (.inl rfl) (.slice p.AO M.O.length p.cO)).setCell (p:=⟨g,14,none⟩) (.inl rfl) (.int .i64 0)
 have HC9:Hid (DmAt (((((((w8.setCell ⟨g,15,none⟩ (.int .i64 M.gen)).setCell ⟨g,16,none⟩ (.int .i64 M.cut)).setCell ⟨g,17,none⟩ (.int .i64 M.fence)).setCell ⟨g,18,none⟩ (.slice p.AE M.E.length p.cE)).setCell ⟨g,19,none⟩ (.slice p.AM M.M.length p.cM)).setCell ⟨g,20,none⟩ (.slice p.AO M.O.length p.cO)).setCell ⟨g,14,none⟩ (.int .i64 0)) base g { s with asked:=false,read:=M,ver:=0 } q p pn):=Jh (HC8.out.put ho_9 (s':={ s with asked:=false,read:=M,ver:=0 }) (pr':=p) (pn':=pn) b_9 rfl (Mow.only HM8.out ho_9 HC8.out.blk (by decide) (by decide) (by decide)) (HC8.out.next_ ho_9))
 have HO9:=Jh (HO8.out.trans ho_9)
 have HX9:=Jh (ho_9.blk HX8.out HNg.out)
 clear b_9 ho_9
 go_upto_region 30 with fail
 generalize (((((((w8.setCell ⟨g,15,none⟩ (.int .i64 M.gen)).setCell ⟨g,16,none⟩ (.int .i64 M.cut)).setCell ⟨g,17,none⟩ (.int .i64 M.fence)).setCell ⟨g,18,none⟩ (.slice p.AE M.E.length p.cE)).setCell ⟨g,19,none⟩ (.slice p.AM M.M.length p.cM)).setCell ⟨g,20,none⟩ (.slice p.AO M.O.length p.cO)).setCell ⟨g,14,none⟩ (.int .i64 0))=w9 at *
 clear x0 x1 x2 x3 x4 x5 f15 y15 f16 y16 f17 y17 f18 y18 f19 y19 f20 y20 f14 y14
 have Hc:Hid (∀ W,Below w9.heap.size w9 W→(W.cell? ⟨gm,0,none⟩=some (.int .i64 M.gen)∧W.cell? ⟨gm,1,none⟩=some (.int .i64 M.cut)∧W.cell? ⟨gm,2,none⟩=some (.int .i64 M.fence)∧W.cell? ⟨gm,3,none⟩=some (.slice p.AE M.E.length p.cE)∧W.cell? ⟨gm,4,none⟩=some (.slice p.AM M.M.length p.cM)∧W.cell? ⟨gm,5,none⟩=some (.slice p.AO M.O.length p.cO))∧W.cell? ⟨g,0,none⟩=some (.slice q.AA s.d.add.length q.cA)∧W.cell? ⟨g,1,none⟩=some (.slice q.AD s.d.drop.length q.cD)∧W.cell? ⟨g,2,none⟩=some (.slice q.AM s.d.marks.length q.cM)∧W.cell? ⟨g,3,none⟩=some (.int .i64 s.d.cut)∧W.cell? ⟨g,4,none⟩=some (.int .i64 s.d.fence)∧W.cell? ⟨g,5,none⟩=some (.int .i64 s.d.by_.agent)∧W.cell? ⟨g,6,none⟩=some (.int .i64 s.d.by_.life)∧W.cell? ⟨g,7,none⟩=some (.int .i64 s.d.by_.count)):=Jh fun W hW=>by
  have h1:=HX9.out.below hW HX9.out.lt
  have h2:=HC9.out.blk.below hW HC9.out.blk.lt
  exact ⟨⟨h1.cell 0,h1.cell 1,h1.cell 2,h1.cell 3,h1.cell 4,h1.cell 5⟩,h2.cell 0,h2.cell 1,h2.cell 2,h2.cell 3,h2.cell 4,h2.cell 5,h2.cell 6,h2.cell 7⟩
 have HDd:=Jh fun W (hW:Below w9.heap.size w9 W)=>hdid W (Mow.good ((HC9.out.below hW).rd) hgM) (Nat.le_refl _) s.d.by_
 have HW0:Hid (Below w9.heap.size w9 w9.drew):=Jh (qaa (Below.refl _ _) 1)
 refine qa4 (fun _=>false) (fun w'=>(w'.cell? ⟨gm,0,none⟩=some (.int .i64 M.gen)∧w'.cell? ⟨gm,1,none⟩=some (.int .i64 M.cut)∧w'.cell? ⟨gm,2,none⟩=some (.int .i64 M.fence)∧w'.cell? ⟨gm,3,none⟩=some (.slice p.AE M.E.length p.cE)∧w'.cell? ⟨gm,4,none⟩=some (.slice p.AM M.M.length p.cM)∧w'.cell? ⟨gm,5,none⟩=some (.slice p.AO M.O.length p.cO))∧w'.cell? ⟨g,0,none⟩=some (.slice q.AA s.d.add.length q.cA)∧w'.cell? ⟨g,1,none⟩=some (.slice q.AD s.d.drop.length q.cD)∧w'.cell? ⟨g,2,none⟩=some (.slice q.AM s.d.marks.length q.cM)∧w'.cell? ⟨g,3,none⟩=some (.int .i64 s.d.cut)∧w'.cell? ⟨g,4,none⟩=some (.int .i64 s.d.fence)∧w'.cell? ⟨g,5,none⟩=some (.int .i64 s.d.by_.agent)∧w'.cell? ⟨g,6,none⟩=some (.int .i64 s.d.by_.life)∧w'.cell? ⟨g,7,none⟩=some (.int .i64 s.d.by_.count)) (by kernel_rfl) (Hc.out _ HW0.out) (fun hHeld=>?_)
 generalize w9.drew=u0 at *
 apply tkC 0
 apply tkC 1
 apply tkC 2
 apply tkC 3
 apply tkC 4
 apply tkC 5
 refine qah (i:=6) (by kernel_rfl) rfl (fun K hK=>?_);go_simp
 refine (HDd.out u0 HW0.out).mono ?_
 rintro en u1 ⟨rfl,hb1⟩
 have HB1:=Jh (HW0.out.trans (hb1.mono HW0.out.size))
 have hS1:=Hc.out _ HB1.out
 refine hK.out _ _ (fun _=>hS1) ?_
 clear hK K hHeld hb1 hS1
 (try simp only [Act.put,Jk,Jg,Ji,Jd,Je,Jf])
 refine qaw (by kernel_rfl) ?_ _
 have HCa:=Jh (HC9.out.below HB1.out)
 have HOa:Hid (Only g w u1):=Jh (HO9.out.trans (Only.of_below HB1.out))
 have HX1:=Jh (HX9.out.below HB1.out HX9.out.lt)
 clear HDd HC9 HO9 HX9 HW0 Hc
 cases hdd:M.O.any (didB s.d.by_)
 ·have HNd:Hid (¬ M.O.any (didB s.d.by_)=true):=Jh (by rw [hdd];simp)
  clear hdd
  go_upto_region 33 with fail
  go_cut [11,12] (fun v6 v7 wx=>∃ W9:World,W9=wx∧∃ (ga:Nat) (pz:Pl),v6=.pointer (some ⟨ga,0,none⟩)∧v7=.int .i64 (appE M s.d)∧Hid (Blk W9 ga 53 #[.int .i64 (appM M s.d).gen,.int .i64 (appM M s.d).cut,.int .i64 (appM M s.d).fence,.slice pz.AE (appM M s.d).E.length pz.cE,.slice pz.AM (appM M s.d).M.length pz.cM,.slice pz.AO (appM M s.d).O.length pz.cO])∧Hid (DmAt W9 base g { s with asked:=false,read:=M,ver:=0 } q p pn)∧Hid (Mow W9 base (appM M s.d) pz)∧Hid (Only g w W9))
  case first =>
   have Hc1:Hid (∀ W,Below u1.heap.size u1 W→(W.cell? ⟨gm,0,none⟩=some (.int .i64 M.gen)∧W.cell? ⟨gm,1,none⟩=some (.int .i64 M.cut)∧W.cell? ⟨gm,2,none⟩=some (.int .i64 M.fence)∧W.cell? ⟨gm,3,none⟩=some (.slice p.AE M.E.length p.cE)∧W.cell? ⟨gm,4,none⟩=some (.slice p.AM M.M.length p.cM)∧W.cell? ⟨gm,5,none⟩=some (.slice p.AO M.O.length p.cO))∧W.cell? ⟨g,0,none⟩=some (.slice q.AA s.d.add.length q.cA)∧W.cell? ⟨g,1,none⟩=some (.slice q.AD s.d.drop.length q.cD)∧W.cell? ⟨g,2,none⟩=some (.slice q.AM s.d.marks.length q.cM)∧W.cell? ⟨g,3,none⟩=some (.int .i64 s.d.cut)∧W.cell? ⟨g,4,none⟩=some (.int .i64 s.d.fence)∧W.cell? ⟨g,5,none⟩=some (.int .i64 s.d.by_.agent)∧W.cell? ⟨g,6,none⟩=some (.int .i64 s.d.by_.life)∧W.cell? ⟨g,7,none⟩=some (.int .i64 s.d.by_.count)):=Jh fun W hW=>by
    have h1:=HX1.out.below hW HX1.out.lt
    have h2:=HCa.out.blk.below hW HCa.out.blk.lt
    exact ⟨⟨h1.cell 0,h1.cell 1,h1.cell 2,h1.cell 3,h1.cell 4,h1.cell 5⟩,h2.cell 0,h2.cell 1,h2.cell 2,h2.cell 3,h2.cell 4,h2.cell 5,h2.cell 6,h2.cell 7⟩
   have HAp:Hid (∀ W,Below u1.heap.size u1 W→Calls Tryz.prog 26 #[mdV M p,edV s.d q] W (RetAp W (appM M s.d) (appE M s.d))):=Jh fun W hW=>hap W (Mow.good ((HCa.out.below hW).rd) hgM) (Edo.edi ((HCa.out.below hW).ed) hge) (Nat.le_refl _) hgM.short hge.short (by have:=hge.a;omega)
   have HW1:Hid (Below u1.heap.size u1 u1.drew):=Jh (qaa (Below.refl _ _) 1)
   refine qa4 (fun _=>false) (fun w'=>(w'.cell? ⟨gm,0,none⟩=some (.int .i64 M.gen)∧w'.cell? ⟨gm,1,none⟩=some (.int .i64 M.cut)∧w'.cell? ⟨gm,2,none⟩=some (.int .i64 M.fence)∧w'.cell? ⟨gm,3,none⟩=some (.slice p.AE M.E.length p.cE)∧w'.cell? ⟨gm,4,none⟩=some (.slice p.AM M.M.length p.cM)∧w'.cell? ⟨gm,5,none⟩=some (.slice p.AO M.O.length p.cO))∧w'.cell? ⟨g,0,none⟩=some (.slice q.AA s.d.add.length q.cA)∧w'.cell? ⟨g,1,none⟩=some (.slice q.AD s.d.drop.length q.cD)∧w'.cell? ⟨g,2,none⟩=some (.slice q.AM s.d.marks.length q.cM)∧w'.cell? ⟨g,3,none⟩=some (.int .i64 s.d.cut)∧w'.cell? ⟨g,4,none⟩=some (.int .i64 s.d.fence)∧w'.cell? ⟨g,5,none⟩=some (.int .i64 s.d.by_.agent)∧w'.cell? ⟨g,6,none⟩=some (.int .i64 s.d.by_.life)∧w'.cell? ⟨g,7,none⟩=some (.int .i64 s.d.by_.count)) (by kernel_rfl) (Hc1.out _ HW1.out) (fun hHeld=>?_)
   generalize u1.drew=v0 at *
   apply tkC 0
   apply tkC 1
   apply tkC 2
   apply tkC 3
   apply tkC 4
   refine qei (i:=5) (j:=9) (by kernel_rfl) rfl rfl (fun K hK=>?_) (fun K hK=>?_)
   ·go_simp
    refine (HAp.out v0 HW1.out).mono ?_
    rintro en v1 ⟨pz,rfl,hmo,hb2⟩
    have HV1:=Jh (HW1.out.trans (hb2.mono HW1.out.size))
    have HMo:=Jh (Mow.mono hmo (b2:=base) (by have:=HCa.out.blk.lt;have:=HCa.out.low;have:=HW1.out.size;omega))
    have hSv:=Hc1.out _ HV1.out
    refine hK.out _ _ (fun _=>hSv) ?_
    clear hK K hHeld hmo hb2
    (try simp only [Act.put,Jk,Jg,Ji,Jd,Je,Jf])
    apply tkC 6
    apply tkC 7
    apply tkC 8
    refine qah (i:=9) (by kernel_rfl) rfl (fun K hK=>?_);go_simp
    have HV2:=Jh (HV1.out.alloc HV1.out.size (.cells #[.int .i64 0,.int .i64 0,.int .i64 0,.slice none 0 0,.slice none 0 0,.slice none 0 0] 53))
    have hSv2:=Hc1.out _ HV2.out
    refine hK.out _ _ (fun _=>hSv2) ?_
    clear hK K hSv
    (try simp only [Act.put,Jk,Jg,Ji,Jd,Je,Jf])
    have hBz:=Blk.new v1 53 #[.int .i64 0,.int .i64 0,.int .i64 0,.slice none 0 0,.slice none 0 0,.slice none 0 0]
    have HMu:=Jh (HMo.out.below ((Below.refl _ _).alloc (Nat.le_refl _) (.cells #[.int .i64 0,.int .i64 0,.int .i64 0,.slice none 0 0,.slice none 0 0,.slice none 0 0] 53)))
    obtain ⟨ga,hga⟩:∃ ga,ga=v1.heap.size:=⟨_,rfl⟩
    have hgal:u1.heap.size≤ga:=by rw [hga];exact HV1.out.size
    rw [← hga] at hBz ⊢
    have HBz:=Jh hBz
    clear hBz hga
    generalize v1.alloc (.cells #[.int .i64 0,.int .i64 0,.int .i64 0,.slice none 0 0,.slice none 0 0,.slice none 0 0] 53)=u at *
    have HCu:=Jh (HCa.out.below HV2.out)
    have HOu:Hid (Only g w u):=Jh (HOa.out.trans (Only.of_below HV2.out))
    have HXu:=Jh (HX1.out.below HV2.out HX1.out.lt)
    have HGa:Hid (w.heap.size≤ga):=Jh (Nat.le_trans HOa.out.size hgal)
    have HGa2:Hid (gm<ga):=Jh (Nat.lt_of_lt_of_le HX1.out.lt hgal)
    clear hgal
    have x0:=HBz.out.cell 0
    have x1:=HBz.out.cell 1
    have x2:=HBz.out.cell 2
    have x3:=HBz.out.cell 3
    have x4:=HBz.out.cell 4
    have x5:=HBz.out.cell 5
    have y0:=HBz.out.frozen 0
    have y1:=HBz.out.frozen 1
    have y2:=HBz.out.frozen 2
    have y3:=HBz.out.frozen 3
    have y4:=HBz.out.frozen 4
    have y5:=HBz.out.frozen 5
    simp only [Ja,Jb,Jc] at x0 x1 x2 x3 x4 x5
    have hso:Only ga u (set6 u ga (.int .i64 (appM M s.d).gen) (.int .i64 (appM M s.d).cut) (.int .i64 (appM M s.d).fence) (.slice pz.AE (appM M s.d).E.length pz.cE) (.slice pz.AM (appM M s.d).M.length pz.cM) (.slice pz.AO (appM M s.d).O.length pz.cO)):=qa2 (Only.refl ga u) _ _ _ _ _ _
    have HB9:=Jh (qan HBz.out (.int .i64 (appM M s.d).gen) (.int .i64 (appM M s.d).cut) (.int .i64 (appM M s.d).fence) (.slice pz.AE (appM M s.d).E.length pz.cE) (.slice pz.AM (appM M s.d).M.length pz.cM) (.slice pz.AO (appM M s.d).O.length pz.cO))
    have HC9:=Jh (HCu.out.other hso HBz.out (by decide) (by decide) (by decide) (by decide) (by decide))
    have HM9:=Jh (Mow.only HMu.out hso HBz.out (by decide) (by decide) (by decide))
    have HO9:Hid (Only g w (set6 u ga (.int .i64 (appM M s.d).gen) (.int .i64 (appM M s.d).cut) (.int .i64 (appM M s.d).fence) (.slice pz.AE (appM M s.d).E.length pz.cE) (.slice pz.AM (appM M s.d).M.length pz.cM) (.slice pz.AO (appM M s.d).O.length pz.cO))):=Jh (qdt HOu.out HGa.out _ _ _ _ _ _)
    have hgmx:Blk (set6 u ga (.int .i64 (appM M s.d).gen) (.int .i64 (appM M s.d).cut) (.int .i64 (appM M s.d).fence) (.slice pz.AE (appM M s.d).E.length pz.cE) (.slice pz.AM (appM M s.d).M.length pz.cM) (.slice pz.AO (appM M s.d).O.length pz.cO)) gm 53 #[.int .i64 M.gen,.int .i64 M.cut,.int .i64 M.fence,.slice p.AE M.E.length p.cE,.slice p.AM M.M.length p.cM,.slice p.AO M.O.length p.cO]:=hso.blk HXu.out (by have:=HGa2.out;omega)
    have hS9:((set6 u ga (.int .i64 (appM M s.d).gen) (.int .i64 (appM M s.d).cut) (.int .i64 (appM M s.d).fence) (.slice pz.AE (appM M s.d).E.length pz.cE) (.slice pz.AM (appM M s.d).M.length pz.cM) (.slice pz.AO (appM M s.d).O.length pz.cO)).cell? ⟨gm,0,none⟩=some (.int .i64 M.gen)∧(set6 u ga (.int .i64 (appM M s.d).gen) (.int .i64 (appM M s.d).cut) (.int .i64 (appM M s.d).fence) (.slice pz.AE (appM M s.d).E.length pz.cE) (.slice pz.AM (appM M s.d).M.length pz.cM) (.slice pz.AO (appM M s.d).O.length pz.cO)).cell? ⟨gm,1,none⟩=some (.int .i64 M.cut)∧(set6 u ga (.int .i64 (appM M s.d).gen) (.int .i64 (appM M s.d).cut) (.int .i64 (appM M s.d).fence) (.slice pz.AE (appM M s.d).E.length pz.cE) (.slice pz.AM (appM M s.d).M.length pz.cM) (.slice pz.AO (appM M s.d).O.length pz.cO)).cell? ⟨gm,2,none⟩=some (.int .i64 M.fence)∧(set6 u ga (.int .i64 (appM M s.d).gen) (.int .i64 (appM M s.d).cut) (.int .i64 (appM M s.d).fence) (.slice pz.AE (appM M s.d).E.length pz.cE) (.slice pz.AM (appM M s.d).M.length pz.cM) (.slice pz.AO (appM M s.d).O.length pz.cO)).cell? ⟨gm,3,none⟩=some (.slice p.AE M.E.length p.cE)∧(set6 u ga (.int .i64 (appM M s.d).gen) (.int .i64 (appM M s.d).cut) (.int .i64 (appM M s.d).fence) (.slice pz.AE (appM M s.d).E.length pz.cE) (.slice pz.AM (appM M s.d).M.length pz.cM) (.slice pz.AO (appM M s.d).O.length pz.cO)).cell? ⟨gm,4,none⟩=some (.slice p.AM M.M.length p.cM)∧(set6 u ga (.int .i64 (appM M s.d).gen) (.int .i64 (appM M s.d).cut) (.int .i64 (appM M s.d).fence) (.slice pz.AE (appM M s.d).E.length pz.cE) (.slice pz.AM (appM M s.d).M.length pz.cM) (.slice pz.AO (appM M s.d).O.length pz.cO)).cell? ⟨gm,5,none⟩=some (.slice p.AO M.O.length p.cO))∧(set6 u ga (.int .i64 (appM M s.d).gen) (.int .i64 (appM M s.d).cut) (.int .i64 (appM M s.d).fence) (.slice pz.AE (appM M s.d).E.length pz.cE) (.slice pz.AM (appM M s.d).M.length pz.cM) (.slice pz.AO (appM M s.d).O.length pz.cO)).cell? ⟨g,0,none⟩=some (.slice q.AA s.d.add.length q.cA)∧(set6 u ga (.int .i64 (appM M s.d).gen) (.int .i64 (appM M s.d).cut) (.int .i64 (appM M s.d).fence) (.slice pz.AE (appM M s.d).E.length pz.cE) (.slice pz.AM (appM M s.d).M.length pz.cM) (.slice pz.AO (appM M s.d).O.length pz.cO)).cell? ⟨g,1,none⟩=some (.slice q.AD s.d.drop.length q.cD)∧(set6 u ga (.int .i64 (appM M s.d).gen) (.int .i64 (appM M s.d).cut) (.int .i64 (appM M s.d).fence) (.slice pz.AE (appM M s.d).E.length pz.cE) (.slice pz.AM (appM M s.d).M.length pz.cM) (.slice pz.AO (appM M s.d).O.length pz.cO)).cell? ⟨g,2,none⟩=some (.slice q.AM s.d.marks.length q.cM)∧(set6 u ga (.int .i64 (appM M s.d).gen) (.int .i64 (appM M s.d).cut) (.int .i64 (appM M s.d).fence) (.slice pz.AE (appM M s.d).E.length pz.cE) (.slice pz.AM (appM M s.d).M.length pz.cM) (.slice pz.AO (appM M s.d).O.length pz.cO)).cell? ⟨g,3,none⟩=some (.int .i64 s.d.cut)∧(set6 u ga (.int .i64 (appM M s.d).gen) (.int .i64 (appM M s.d).cut) (.int .i64 (appM M s.d).fence) (.slice pz.AE (appM M s.d).E.length pz.cE) (.slice pz.AM (appM M s.d).M.length pz.cM) (.slice pz.AO (appM M s.d).O.length pz.cO)).cell? ⟨g,4,none⟩=some (.int .i64 s.d.fence)∧(set6 u ga (.int .i64 (appM M s.d).gen) (.int .i64 (appM M s.d).cut) (.int .i64 (appM M s.d).fence) (.slice pz.AE (appM M s.d).E.length pz.cE) (.slice pz.AM (appM M s.d).M.length pz.cM) (.slice pz.AO (appM M s.d).O.length pz.cO)).cell? ⟨g,5,none⟩=some (.int .i64 s.d.by_.agent)∧(set6 u ga (.int .i64 (appM M s.d).gen) (.int .i64 (appM M s.d).cut) (.int .i64 (appM M s.d).fence) (.slice pz.AE (appM M s.d).E.length pz.cE) (.slice pz.AM (appM M s.d).M.length pz.cM) (.slice pz.AO (appM M s.d).O.length pz.cO)).cell? ⟨g,6,none⟩=some (.int .i64 s.d.by_.life)∧(set6 u ga (.int .i64 (appM M s.d).gen) (.int .i64 (appM M s.d).cut) (.int .i64 (appM M s.d).fence) (.slice pz.AE (appM M s.d).E.length pz.cE) (.slice pz.AM (appM M s.d).M.length pz.cM) (.slice pz.AO (appM M s.d).O.length pz.cO)).cell? ⟨g,7,none⟩=some (.int .i64 s.d.by_.count):=⟨⟨hgmx.cell 0,hgmx.cell 1,hgmx.cell 2,hgmx.cell 3,hgmx.cell 4,hgmx.cell 5⟩,HC9.out.blk.cell 0,HC9.out.blk.cell 1,HC9.out.blk.cell 2,HC9.out.blk.cell 3,HC9.out.blk.cell 4,HC9.out.blk.cell 5,HC9.out.blk.cell 6,HC9.out.blk.cell 7⟩
    unfold set6 at hS9
    clear hso hgmx
    refine qah (i:=10) (by kernel_rfl) rfl (fun K hK=>?_);go_simp
    refine hK.out _ _ (fun _=>hS9) ?_
    clear hK K x0 x1 x2 x3 x4 x5 y0 y1 y2 y3 y4 y5
    (try simp only [Act.put,Jk,Jg,Ji,Jd,Je,Jf])
    refine qah (i:=11) (by kernel_rfl) rfl (fun K hK=>?_);go_simp
    refine hK.out _ _ (fun _=>hS9) (qaw (by kernel_rfl) ?_ _)
    clear hK K hS9
    go_wp2
    go_meet
    case rel=>exact ⟨_,rfl,ga,pz,rfl,rfl,HB9,HC9,HM9,HO9⟩
   ·go_simp
    have HV1:=Jh (HW1.out.alloc HW1.out.size (.cells #[.int .i64 0,.int .i64 0,.int .i64 0,.slice none 0 0,.slice none 0 0,.slice none 0 0] 53))
    have hSv:=Hc1.out _ HV1.out
    refine hK.out _ _ (fun _=>hSv) ?_
    clear hK K hHeld
    (try simp only [Act.put,Jk,Jg,Ji,Jd,Je,Jf])
    have hBz0:=Blk.new v0 53 #[.int .i64 0,.int .i64 0,.int .i64 0,.slice none 0 0,.slice none 0 0,.slice none 0 0]
    obtain ⟨ga,hga⟩:∃ ga,ga=v0.heap.size:=⟨_,rfl⟩
    have hgal:u1.heap.size≤ga:=by rw [hga];exact HW1.out.size
    rw [← hga] at hBz0 ⊢
    have HBz0:=Jh hBz0
    clear hBz0 hga
    generalize v0.alloc (.cells #[.int .i64 0,.int .i64 0,.int .i64 0,.slice none 0 0,.slice none 0 0,.slice none 0 0] 53)=v1 at *
    refine qah (i:=5) (by kernel_rfl) rfl (fun K hK=>?_);go_simp
    refine (HAp.out v1 HV1.out).mono ?_
    rintro en u ⟨pz,rfl,hmo,hb2⟩
    have HV2:=Jh (HV1.out.trans (hb2.mono HV1.out.size))
    have HBz:=Jh (HBz0.out.below hb2 HBz0.out.lt)
    have HMu:=Jh (Mow.mono hmo (b2:=base) (by have:=HCa.out.blk.lt;have:=HCa.out.low;have:=HV1.out.size;omega))
    have hSv2:=Hc1.out _ HV2.out
    refine hK.out _ _ (fun _=>hSv2) ?_
    clear hK K hSv hmo hb2
    (try simp only [Act.put,Jk,Jg,Ji,Jd,Je,Jf])
    apply tkC 6
    apply tkC 7
    apply tkC 8
    have HCu:=Jh (HCa.out.below HV2.out)
    have HOu:Hid (Only g w u):=Jh (HOa.out.trans (Only.of_below HV2.out))
    have HXu:=Jh (HX1.out.below HV2.out HX1.out.lt)
    have HGa:Hid (w.heap.size≤ga):=Jh (Nat.le_trans HOa.out.size hgal)
    have HGa2:Hid (gm<ga):=Jh (Nat.lt_of_lt_of_le HX1.out.lt hgal)
    clear hgal
    have x0:=HBz.out.cell 0
    have x1:=HBz.out.cell 1
    have x2:=HBz.out.cell 2
    have x3:=HBz.out.cell 3
    have x4:=HBz.out.cell 4
    have x5:=HBz.out.cell 5
    have y0:=HBz.out.frozen 0
    have y1:=HBz.out.frozen 1
    have y2:=HBz.out.frozen 2
    have y3:=HBz.out.frozen 3
    have y4:=HBz.out.frozen 4
    have y5:=HBz.out.frozen 5
    simp only [Ja,Jb,Jc] at x0 x1 x2 x3 x4 x5
    have hso:Only ga u (set6 u ga (.int .i64 (appM M s.d).gen) (.int .i64 (appM M s.d).cut) (.int .i64 (appM M s.d).fence) (.slice pz.AE (appM M s.d).E.length pz.cE) (.slice pz.AM (appM M s.d).M.length pz.cM) (.slice pz.AO (appM M s.d).O.length pz.cO)):=qa2 (Only.refl ga u) _ _ _ _ _ _
    have HB9:=Jh (qan HBz.out (.int .i64 (appM M s.d).gen) (.int .i64 (appM M s.d).cut) (.int .i64 (appM M s.d).fence) (.slice pz.AE (appM M s.d).E.length pz.cE) (.slice pz.AM (appM M s.d).M.length pz.cM) (.slice pz.AO (appM M s.d).O.length pz.cO))
    have HC9:=Jh (HCu.out.other hso HBz.out (by decide) (by decide) (by decide) (by decide) (by decide))
    have HM9:=Jh (Mow.only HMu.out hso HBz.out (by decide) (by decide) (by decide))
    have HO9:Hid (Only g w (set6 u ga (.int .i64 (appM M s.d).gen) (.int .i64 (appM M s.d).cut) (.int .i64 (appM M s.d).fence) (.slice pz.AE (appM M s.d).E.length pz.cE) (.slice pz.AM (appM M s.d).M.length pz.cM) (.slice pz.AO (appM M s.d).O.length pz.cO))):=Jh (qdt HOu.out HGa.out _ _ _ _ _ _)
    have hgmx:Blk (set6 u ga (.int .i64 (appM M s.d).gen) (.int .i64 (appM M s.d).cut) (.int .i64 (appM M s.d).fence) (.slice pz.AE (appM M s.d).E.length pz.cE) (.slice pz.AM (appM M s.d).M.length pz.cM) (.slice pz.AO (appM M s.d).O.length pz.cO)) gm 53 #[.int .i64 M.gen,.int .i64 M.cut,.int .i64 M.fence,.slice p.AE M.E.length p.cE,.slice p.AM M.M.length p.cM,.slice p.AO M.O.length p.cO]:=hso.blk HXu.out (by have:=HGa2.out;omega)
    have hS9:((set6 u ga (.int .i64 (appM M s.d).gen) (.int .i64 (appM M s.d).cut) (.int .i64 (appM M s.d).fence) (.slice pz.AE (appM M s.d).E.length pz.cE) (.slice pz.AM (appM M s.d).M.length pz.cM) (.slice pz.AO (appM M s.d).O.length pz.cO)).cell? ⟨gm,0,none⟩=some (.int .i64 M.gen)∧(set6 u ga (.int .i64 (appM M s.d).gen) (.int .i64 (appM M s.d).cut) (.int .i64 (appM M s.d).fence) (.slice pz.AE (appM M s.d).E.length pz.cE) (.slice pz.AM (appM M s.d).M.length pz.cM) (.slice pz.AO (appM M s.d).O.length pz.cO)).cell? ⟨gm,1,none⟩=some (.int .i64 M.cut)∧(set6 u ga (.int .i64 (appM M s.d).gen) (.int .i64 (appM M s.d).cut) (.int .i64 (appM M s.d).fence) (.slice pz.AE (appM M s.d).E.length pz.cE) (.slice pz.AM (appM M s.d).M.length pz.cM) (.slice pz.AO (appM M s.d).O.length pz.cO)).cell? ⟨gm,2,none⟩=some (.int .i64 M.fence)∧(set6 u ga (.int .i64 (appM M s.d).gen) (.int .i64 (appM M s.d).cut) (.int .i64 (appM M s.d).fence) (.slice pz.AE (appM M s.d).E.length pz.cE) (.slice pz.AM (appM M s.d).M.length pz.cM) (.slice pz.AO (appM M s.d).O.length pz.cO)).cell? ⟨gm,3,none⟩=some (.slice p.AE M.E.length p.cE)∧(set6 u ga (.int .i64 (appM M s.d).gen) (.int .i64 (appM M s.d).cut) (.int .i64 (appM M s.d).fence) (.slice pz.AE (appM M s.d).E.length pz.cE) (.slice pz.AM (appM M s.d).M.length pz.cM) (.slice pz.AO (appM M s.d).O.length pz.cO)).cell? ⟨gm,4,none⟩=some (.slice p.AM M.M.length p.cM)∧(set6 u ga (.int .i64 (appM M s.d).gen) (.int .i64 (appM M s.d).cut) (.int .i64 (appM M s.d).fence) (.slice pz.AE (appM M s.d).E.length pz.cE) (.slice pz.AM (appM M s.d).M.length pz.cM) (.slice pz.AO (appM M s.d).O.length pz.cO)).cell? ⟨gm,5,none⟩=some (.slice p.AO M.O.length p.cO))∧(set6 u ga (.int .i64 (appM M s.d).gen) (.int .i64 (appM M s.d).cut) (.int .i64 (appM M s.d).fence) (.slice pz.AE (appM M s.d).E.length pz.cE) (.slice pz.AM (appM M s.d).M.length pz.cM) (.slice pz.AO (appM M s.d).O.length pz.cO)).cell? ⟨g,0,none⟩=some (.slice q.AA s.d.add.length q.cA)∧(set6 u ga (.int .i64 (appM M s.d).gen) (.int .i64 (appM M s.d).cut) (.int .i64 (appM M s.d).fence) (.slice pz.AE (appM M s.d).E.length pz.cE) (.slice pz.AM (appM M s.d).M.length pz.cM) (.slice pz.AO (appM M s.d).O.length pz.cO)).cell? ⟨g,1,none⟩=some (.slice q.AD s.d.drop.length q.cD)∧(set6 u ga (.int .i64 (appM M s.d).gen) (.int .i64 (appM M s.d).cut) (.int .i64 (appM M s.d).fence) (.slice pz.AE (appM M s.d).E.length pz.cE) (.slice pz.AM (appM M s.d).M.length pz.cM) (.slice pz.AO (appM M s.d).O.length pz.cO)).cell? ⟨g,2,none⟩=some (.slice q.AM s.d.marks.length q.cM)∧(set6 u ga (.int .i64 (appM M s.d).gen) (.int .i64 (appM M s.d).cut) (.int .i64 (appM M s.d).fence) (.slice pz.AE (appM M s.d).E.length pz.cE) (.slice pz.AM (appM M s.d).M.length pz.cM) (.slice pz.AO (appM M s.d).O.length pz.cO)).cell? ⟨g,3,none⟩=some (.int .i64 s.d.cut)∧(set6 u ga (.int .i64 (appM M s.d).gen) (.int .i64 (appM M s.d).cut) (.int .i64 (appM M s.d).fence) (.slice pz.AE (appM M s.d).E.length pz.cE) (.slice pz.AM (appM M s.d).M.length pz.cM) (.slice pz.AO (appM M s.d).O.length pz.cO)).cell? ⟨g,4,none⟩=some (.int .i64 s.d.fence)∧(set6 u ga (.int .i64 (appM M s.d).gen) (.int .i64 (appM M s.d).cut) (.int .i64 (appM M s.d).fence) (.slice pz.AE (appM M s.d).E.length pz.cE) (.slice pz.AM (appM M s.d).M.length pz.cM) (.slice pz.AO (appM M s.d).O.length pz.cO)).cell? ⟨g,5,none⟩=some (.int .i64 s.d.by_.agent)∧(set6 u ga (.int .i64 (appM M s.d).gen) (.int .i64 (appM M s.d).cut) (.int .i64 (appM M s.d).fence) (.slice pz.AE (appM M s.d).E.length pz.cE) (.slice pz.AM (appM M s.d).M.length pz.cM) (.slice pz.AO (appM M s.d).O.length pz.cO)).cell? ⟨g,6,none⟩=some (.int .i64 s.d.by_.life)∧(set6 u ga (.int .i64 (appM M s.d).gen) (.int .i64 (appM M s.d).cut) (.int .i64 (appM M s.d).fence) (.slice pz.AE (appM M s.d).E.length pz.cE) (.slice pz.AM (appM M s.d).M.length pz.cM) (.slice pz.AO (appM M s.d).O.length pz.cO)).cell? ⟨g,7,none⟩=some (.int .i64 s.d.by_.count):=⟨⟨hgmx.cell 0,hgmx.cell 1,hgmx.cell 2,hgmx.cell 3,hgmx.cell 4,hgmx.cell 5⟩,HC9.out.blk.cell 0,HC9.out.blk.cell 1,HC9.out.blk.cell 2,HC9.out.blk.cell 3,HC9.out.blk.cell 4,HC9.out.blk.cell 5,HC9.out.blk.cell 6,HC9.out.blk.cell 7⟩
    unfold set6 at hS9
    clear hso hgmx
    refine qah (i:=10) (by kernel_rfl) rfl (fun K hK=>?_);go_simp
    refine hK.out _ _ (fun _=>hS9) ?_
    clear hK K x0 x1 x2 x3 x4 x5 y0 y1 y2 y3 y4 y5
    (try simp only [Act.put,Jk,Jg,Ji,Jd,Je,Jf])
    refine qah (i:=11) (by kernel_rfl) rfl (fun K hK=>?_);go_simp
    refine hK.out _ _ (fun _=>hS9) (qaw (by kernel_rfl) ?_ _)
    clear hK K hS9
    go_wp2
    go_meet
    case rel=>exact ⟨_,rfl,ga,pz,rfl,rfl,HB9,HC9,HM9,HO9⟩
  case rest =>
   obtain ⟨w5,rfl,ga,pz,rfl,rfl,HBa,HC5,HM5,HO5⟩:=hcut
   clear HCa HOa HB1 HX1
   by_cases he5:appE M s.d=0
   ·have e0:(appE M s.d != 0)=false:=nef he5
    have HSaw:Hid (sawD { s with asked:=false } M 0={ s with asked:=false,read:=M,ver:=0,next:=appM M s.d,writes:=true }):=Jh (by unfold sawD;rw [if_neg HNd.out,if_neg (by dsimp only;omega)])
    have x0:=HBa.out.cell 0
    have x1:=HBa.out.cell 1
    have x2:=HBa.out.cell 2
    have x3:=HBa.out.cell 3
    have x4:=HBa.out.cell 4
    have x5:=HBa.out.cell 5
    simp only [Ja,Jb,Jc] at x0 x1 x2 x3 x4 x5
    have f21:=HC5.out.blk.frozen 21
    have y21:=HC5.out.blk.cell 21
    have f22:=HC5.out.blk.frozen 22
    have y22:=HC5.out.blk.cell 22
    have f23:=HC5.out.blk.frozen 23
    have y23:=HC5.out.blk.cell 23
    have f24:=HC5.out.blk.frozen 24
    have y24:=HC5.out.blk.cell 24
    have f25:=HC5.out.blk.frozen 25
    have y25:=HC5.out.blk.cell 25
    have f26:=HC5.out.blk.frozen 26
    have y26:=HC5.out.blk.cell 26
    have f10:=HC5.out.blk.frozen 10
    have y10:=HC5.out.blk.cell 10
    simp only [Ja,Jb,Jc] at y21 y22 y23 y24 y25 y26 y10
    have b_F:=(((((((HC5.out.blk.set_ 21 (.int .i64 (appM M s.d).gen)).set_ 22 (.int .i64 (appM M s.d).cut)).set_ 23 (.int .i64 (appM M s.d).fence)).set_ 24 (.slice pz.AE (appM M s.d).E.length pz.cE)).set_ 25 (.slice pz.AM (appM M s.d).M.length pz.cM)).set_ 26 (.slice pz.AO (appM M s.d).O.length pz.cO)).set_ 10 (.bool true))
    simp only [Jd,Je,Jf] at b_F
    have ho_F:Only g w5 (((((((w5.setCell ⟨g,21,none⟩ (.int .i64 (appM M s.d).gen)).setCell ⟨g,22,none⟩ (.int .i64 (appM M s.d).cut)).setCell ⟨g,23,none⟩ (.int .i64 (appM M s.d).fence)).setCell ⟨g,24,none⟩ (.slice pz.AE (appM M s.d).E.length pz.cE)).setCell ⟨g,25,none⟩ (.slice pz.AM (appM M s.d).M.length pz.cM)).setCell ⟨g,26,none⟩ (.slice pz.AO (appM M s.d).O.length pz.cO)).setCell ⟨g,10,none⟩ (.bool true)):=(((((((Only.refl g w5).setCell (p:=⟨g,21,none⟩) (.inl rfl) (.int .i64 (appM M s.d).gen)).setCell (p:=⟨g,22,none⟩) (.inl rfl) (.int .i64 (appM M s.d).cut)).setCell (p:=⟨g,23,none⟩) (.inl rfl) (.int .i64 (appM M s.d).fence)).setCell (p:=⟨g,24,none⟩) (.inl rfl) (.slice pz.AE (appM M s.d).E.length pz.cE)).setCell (p:=⟨g,25,none⟩) (.inl rfl) (.slice pz.AM (appM M s.d).M.length pz.cM)).setCell (p:=⟨g,26,none⟩) (.inl rfl) (.slice pz.AO (appM M s.d).O.length pz.cO)).setCell (p:=⟨g,10,none⟩) (.inl rfl) (.bool true)
    have HCF:Hid (DmAt (((((((w5.setCell ⟨g,21,none⟩ (.int .i64 (appM M s.d).gen)).setCell ⟨g,22,none⟩ (.int .i64 (appM M s.d).cut)).setCell ⟨g,23,none⟩ (.int .i64 (appM M s.d).fence)).setCell ⟨g,24,none⟩ (.slice pz.AE (appM M s.d).E.length pz.cE)).setCell ⟨g,25,none⟩ (.slice pz.AM (appM M s.d).M.length pz.cM)).setCell ⟨g,26,none⟩ (.slice pz.AO (appM M s.d).O.length pz.cO)).setCell ⟨g,10,none⟩ (.bool true)) base g { s with asked:=false,read:=M,ver:=0,next:=appM M s.d,writes:=true } q p pz):=Jh (HC5.out.put ho_F (s':={ s with asked:=false,read:=M,ver:=0,next:=appM M s.d,writes:=true }) (pr':=p) (pn':=pz) b_F rfl (HC5.out.read_ ho_F) (Mow.only HM5.out ho_F HC5.out.blk (by decide) (by decide) (by decide)))
    have HOF:=Jh (HO5.out.trans ho_F)
    clear b_F ho_F
    clear he5
    go_wp2
    go_ret
    exact ⟨rfl,_,_,by rw [HTg.out,HSaw.out];exact HCF.out,HOF.out⟩
   ·have e0:(appE M s.d != 0)=true:=net he5
    have HSaw:Hid (sawD { s with asked:=false } M 0={ s with asked:=false,read:=M,ver:=0,st:=2,er:=appE M s.d }):=Jh (by unfold sawD;rw [if_neg HNd.out,if_pos he5])
    have f27:=HC5.out.blk.frozen 27
    have y27:=HC5.out.blk.cell 27
    have f28:=HC5.out.blk.frozen 28
    have y28:=HC5.out.blk.cell 28
    simp only [Ja,Jb,Jc] at y27 y28
    have b_E:=((HC5.out.blk.set_ 27 (.int .i64 2)).set_ 28 (.int .i64 (appE M s.d)))
    simp only [Jd,Je,Jf] at b_E
    have ho_E:Only g w5 ((w5.setCell ⟨g,27,none⟩ (.int .i64 2)).setCell ⟨g,28,none⟩ (.int .i64 (appE M s.d))):=((Only.refl g w5).setCell (p:=⟨g,27,none⟩) (.inl rfl) (.int .i64 2)).setCell (p:=⟨g,28,none⟩) (.inl rfl) (.int .i64 (appE M s.d))
    have HCE:Hid (DmAt ((w5.setCell ⟨g,27,none⟩ (.int .i64 2)).setCell ⟨g,28,none⟩ (.int .i64 (appE M s.d))) base g { s with asked:=false,read:=M,ver:=0,st:=2,er:=appE M s.d } q p pn):=Jh (HC5.out.put ho_E (s':={ s with asked:=false,read:=M,ver:=0,st:=2,er:=appE M s.d }) (pr':=p) (pn':=pn) b_E rfl (HC5.out.read_ ho_E) (HC5.out.next_ ho_E))
    have HOE:=Jh (HO5.out.trans ho_E)
    clear b_E ho_E
    clear he5
    go_wp2
    go_ret
    exact ⟨rfl,_,_,by rw [HTg.out,HSaw.out];exact HCE.out,HOE.out⟩
 ·have HSaw:Hid (sawD { s with asked:=false } M 0={ s with asked:=false,read:=M,ver:=0,st:=1 }):=Jh (by unfold sawD;rw [if_pos hdd])
  clear hdd
  have f27:=HCa.out.blk.frozen 27
  have y27:=HCa.out.blk.cell 27
  simp only [Ja,Jb,Jc] at y27
  have b_D:=(HCa.out.blk.set_ 27 (.int .i64 1))
  simp only [Jd,Je,Jf] at b_D
  have ho_D:Only g u1 (u1.setCell ⟨g,27,none⟩ (.int .i64 1)):=(Only.refl g u1).setCell (p:=⟨g,27,none⟩) (.inl rfl) (.int .i64 1)
  have HCD:Hid (DmAt (u1.setCell ⟨g,27,none⟩ (.int .i64 1)) base g { s with asked:=false,read:=M,ver:=0,st:=1 } q p pn):=Jh (HCa.out.put ho_D (s':={ s with asked:=false,read:=M,ver:=0,st:=1 }) (pr':=p) (pn':=pn) b_D rfl (HCa.out.read_ ho_D) (HCa.out.next_ ho_D))
  have HOD:=Jh (HOa.out.trans ho_D)
  clear b_D ho_D
  go_wp2
  go_ret
  exact ⟨rfl,_,_,by rw [HTg.out,HSaw.out];exact HCD.out,HOD.out⟩
set_option maxRecDepth 100000 in
set_option maxHeartbeats 6400000 in
theorem takeR_read (hap:ApplyRC) (hdid:DidRC) (hdc:DecRC) (hge:Ge s.d) (w:World) (h:DmAt w base g s q pr pn) (ha:s.asked=true) (hw:s.writes=false) (A:Option Addr) (n c:Nat) (ver:Int) (r3 r4 r5 r6:Value) (now:Int) (err:Int) (he:Hid (err=0)) (data:List UInt8) (hbt:Hid (∀ w',Only g w w'→Bytes w' w'.heap.size A n data)) (hnc:n≤c) (hn:n≤1000000) (hgM:Gd (decB data).1) (hok:Hid ((decB data).2=0)) (s9:Cst) (hs9:Hid (s9=sawD { s with asked:=false } (decB data).1 ver)) :
  Calls Tryz.prog 20 #[.pointer (some ⟨g,0,none⟩),.agg (repA err A n c ver r3 r4 r5 r6),.int .i64 now] w (qb0 w base g (s9) q):=by
 have h2:=h.blk.alloc (.cells (repA err A n c ver r3 r4 r5 r6) 42)
 have z0:=h2.cell 11
 have f0:=h2.frozen 11
 have b3:=h2.set_ 11 (.bool false)
 simp only [Jd,Je,Jf] at b3
 simp only [Ja,Jb,Jc] at z0
 rw [ha] at z0
 have hne:g≠w.heap.size:=by have:=h.blk.lt;omega
 have hr:=(Blk.new w 42 (repA err A n c ver r3 r4 r5 r6)).far (p:=⟨g,11,none⟩) (Ne.symm hne) (.bool false)
 have ho:Only g w ((w.alloc (.cells (repA err A n c ver r3 r4 r5 r6) 42)).setCell ⟨g,11,none⟩ (.bool false)):=((Only.refl g w).alloc _).setCell (.inl rfl) _
 have HC:=Jh (h.put ho (s':={ s with asked:=false }) b3 rfl (h.read_ ho) (h.next_ ho))
 have HR:=Jh hr
 have HO:=Jh ho
 have HN:=Jh hne
 have HWr:=Jh hw
 clear h h2 b3 hr hne ho hw
 go_enter Tryz.func20,Tryz.ntmps20
 go_upto_region 4 with fail
 obtain ⟨gr,hgr⟩:∃ gr,gr=w.heap.size:=⟨_,rfl⟩
 rw [← hgr] at HR HN ⊢
 clear hgr z0 f0
 generalize (w.alloc (.cells (repA err A n c ver r3 r4 r5 r6) 42)).setCell ⟨g,11,none⟩ (.bool false)=w3 at *
 have r0:=HR.out.cell 0
 simp only [Ja,Jb,Jc] at r0
 have y10:w3.cell? ⟨g,10,none⟩=some (.bool s.writes):=HC.out.blk.cell 10
 rw [HWr.out] at y10
 obtain rfl:=he.out
 go_upto_region 17 with fail
 have hx0:=Blk.new w3 53 #[.int .i64 0,.int .i64 0,.int .i64 0,.slice none 0 0,.slice none 0 0,.slice none 0 0]
 have hb0:=(Below.refl w3.heap.size w3).alloc (Nat.le_refl _) (.cells #[.int .i64 0,.int .i64 0,.int .i64 0,.slice none 0 0,.slice none 0 0,.slice none 0 0] 53)
 have HC7:=Jh (HC.out.below hb0)
 have HR7:=Jh (HR.out.below hb0 HR.out.lt)
 have HO7:=Jh (HO.out.trans (Only.of_below hb0))
 obtain ⟨gm,hgm2⟩:∃ gm,gm=w3.heap.size:=⟨_,rfl⟩
 have HGm:Hid (w.heap.size≤gm∧gr<gm):=Jh ⟨by have:=HO.out.size;omega,by have:=HR.out.lt;omega⟩
 rw [← hgm2] at hx0 ⊢
 have HX7:=Jh hx0
 clear hgm2 hx0 hb0 r0 y10 HC HR HO
 generalize w3.alloc (.cells #[.int .i64 0,.int .i64 0,.int .i64 0,.slice none 0 0,.slice none 0 0,.slice none 0 0] 53)=w7 at *
 have r0:=HR7.out.cell 0
 simp only [Ja,Jb,Jc] at r0
 have r1:=HR7.out.cell 1
 simp only [Ja,Jb,Jc] at r1
 have HDc:=Jh (hdc w7 (c:=c) (hbt.out w7 HO7.out) (Nat.le_refl _) hnc hn)
 go_wp2_with fail
 refine HDc.out.mono ?_
 rintro en w5 ⟨pz,rfl,hmo,hb5⟩
 have HB5:=Jh hb5
 have HC5:=Jh (HC7.out.below hb5)
 have HO5:Hid (Only g w w5):=Jh (HO7.out.trans (Only.of_below hb5))
 have HR5:=Jh (HR7.out.below hb5 HR7.out.lt)
 have HX5:=Jh (HX7.out.below hb5 HX7.out.lt)
 have HM5:=Jh (Mow.mono hmo (b2:=base) (by have:=HC7.out.blk.lt;have:=HC7.out.low;omega))
 clear hmo hb5 HDc HC7 HR7 HO7 HX7 r0 r1
 obtain ⟨er5,her5⟩:∃ e,e=(decB data).2:=⟨_,rfl⟩
 have HE5:=Jh her5
 rw [← her5] at hok ⊢
 clear her5
 obtain rfl:=hok.out
 obtain ⟨M,hM⟩:∃ M,M=(decB data).1:=⟨_,rfl⟩
 rw [← hM] at hgM HM5 ⊢
 have HTg:Hid (s9=sawD { s with asked:=false } M ver):=Jh (by rw [hM];exact hs9.out)
 clear hM hs9 HE5
 obtain ⟨p,hp⟩:∃ p,p=pz:=⟨_,rfl⟩
 obtain rfl:=hp
 have HB6:=(Below.refl w5.heap.size w5).alloc (Nat.le_refl _) (.cells #[.int .i64 M.gen,.int .i64 M.cut,.int .i64 M.fence,.slice p.AE M.E.length p.cE,.slice p.AM M.M.length p.cM,.slice p.AO M.O.length p.cO] 53)
 have HC6:=Jh (HC5.out.below HB6)
 have HO6:Hid (Only g w (w5.alloc (.cells #[.int .i64 M.gen,.int .i64 M.cut,.int .i64 M.fence,.slice p.AE M.E.length p.cE,.slice p.AM M.M.length p.cM,.slice p.AO M.O.length p.cO] 53))):=Jh (HO5.out.trans (Only.of_below HB6))
 have HR6:=Jh (HR5.out.below HB6 HR5.out.lt)
 have HX6:=Jh (HX5.out.below HB6 HX5.out.lt)
 have HM6:=Jh (HM5.out.below HB6)
 have HX9:=Jh (Blk.new w5 53 #[.int .i64 M.gen,.int .i64 M.cut,.int .i64 M.fence,.slice p.AE M.E.length p.cE,.slice p.AM M.M.length p.cM,.slice p.AO M.O.length p.cO])
 have HGx0:Hid (gm<w5.heap.size):=Jh HX5.out.lt
 go_upto_region 27 with fail
 clear HB6 HC5 HO5 HM5 HX5 HR5
 obtain ⟨gx,hgx⟩:∃ gx,gx=w5.heap.size:=⟨_,rfl⟩
 have HGx:Hid (gm<gx):=Jh (by rw [hgx];exact HGx0.out)
 rw [← hgx] at HX9 ⊢
 clear hgx HGx0
 generalize w5.alloc (.cells #[.int .i64 M.gen,.int .i64 M.cut,.int .i64 M.fence,.slice p.AE M.E.length p.cE,.slice p.AM M.M.length p.cM,.slice p.AO M.O.length p.cO] 53)=w6 at *
 have HW6:Hid (Below w6.heap.size w6 w6.drew):=Jh (qaa (Below.refl _ _) 1)
 have HX7:=Jh (HX6.out.below HW6.out HX6.out.lt)
 have HC7:=Jh (HC6.out.below HW6.out)
 have HM7:=Jh (HM6.out.below HW6.out)
 have HO7:Hid (Only g w w6.drew):=Jh (HO6.out.trans (Only.of_below HW6.out))
 have HR7:=Jh (HR6.out.below HW6.out HR6.out.lt)
 have HX9':=Jh (HX9.out.below HW6.out HX9.out.lt)
 have hS:(fun W:World=>W.cell? ⟨gx,0,none⟩=some (.int .i64 M.gen)∧W.cell? ⟨gx,1,none⟩=some (.int .i64 M.cut)∧W.cell? ⟨gx,2,none⟩=some (.int .i64 M.fence)∧W.cell? ⟨gx,3,none⟩=some (.slice p.AE M.E.length p.cE)∧W.cell? ⟨gx,4,none⟩=some (.slice p.AM M.M.length p.cM)∧W.cell? ⟨gx,5,none⟩=some (.slice p.AO M.O.length p.cO)∧W.cell? ⟨gr,2,none⟩=some (.int .i64 ver)) w6.drew:=⟨HX9'.out.cell 0,HX9'.out.cell 1,HX9'.out.cell 2,HX9'.out.cell 3,HX9'.out.cell 4,HX9'.out.cell 5,HR7.out.cell 2⟩
 refine qa4 (fun _=>false) (fun W=>W.cell? ⟨gx,0,none⟩=some (.int .i64 M.gen)∧W.cell? ⟨gx,1,none⟩=some (.int .i64 M.cut)∧W.cell? ⟨gx,2,none⟩=some (.int .i64 M.fence)∧W.cell? ⟨gx,3,none⟩=some (.slice p.AE M.E.length p.cE)∧W.cell? ⟨gx,4,none⟩=some (.slice p.AM M.M.length p.cM)∧W.cell? ⟨gx,5,none⟩=some (.slice p.AO M.O.length p.cO)∧W.cell? ⟨gr,2,none⟩=some (.int .i64 ver)) (by kernel_rfl) hS (fun hHeld=>?_)
 generalize w6.drew=u0 at *
 apply tkC 0
 apply tkC 1
 apply tkC 2
 clear hHeld hS
 have HNm:Hid (gx≠gm∧gr≠gm):=Jh ⟨by have:=HGx.out;omega,by have:=HGm.out;omega⟩
 have hso:Only gm u0 (set6 u0 gm (.int .i64 M.gen) (.int .i64 M.cut) (.int .i64 M.fence) (.slice p.AE M.E.length p.cE) (.slice p.AM M.M.length p.cM) (.slice p.AO M.O.length p.cO)):=qa2 (Only.refl gm _) _ _ _ _ _ _
 have HX8:Hid (Blk (set6 u0 gm (.int .i64 M.gen) (.int .i64 M.cut) (.int .i64 M.fence) (.slice p.AE M.E.length p.cE) (.slice p.AM M.M.length p.cM) (.slice p.AO M.O.length p.cO)) gm 53 #[.int .i64 M.gen,.int .i64 M.cut,.int .i64 M.fence,.slice p.AE M.E.length p.cE,.slice p.AM M.M.length p.cM,.slice p.AO M.O.length p.cO]):=Jh (qan HX7.out (.int .i64 M.gen) (.int .i64 M.cut) (.int .i64 M.fence) (.slice p.AE M.E.length p.cE) (.slice p.AM M.M.length p.cM) (.slice p.AO M.O.length p.cO))
 have HC8:=Jh (HC7.out.other hso HX7.out (by decide) (by decide) (by decide) (by decide) (by decide))
 have HM8:=Jh (Mow.only HM7.out hso HX7.out (by decide) (by decide) (by decide))
 have HO8:Hid (Only g w (set6 u0 gm (.int .i64 M.gen) (.int .i64 M.cut) (.int .i64 M.fence) (.slice p.AE M.E.length p.cE) (.slice p.AM M.M.length p.cM) (.slice p.AO M.O.length p.cO))):=Jh (qdt HO7.out HGm.out.1 _ _ _ _ _ _)
 have hx9:Blk (set6 u0 gm (.int .i64 M.gen) (.int .i64 M.cut) (.int .i64 M.fence) (.slice p.AE M.E.length p.cE) (.slice p.AM M.M.length p.cM) (.slice p.AO M.O.length p.cO)) gx 53 #[.int .i64 M.gen,.int .i64 M.cut,.int .i64 M.fence,.slice p.AE M.E.length p.cE,.slice p.AM M.M.length p.cM,.slice p.AO M.O.length p.cO]:=hso.blk HX9'.out HNm.out.1
 have hr9:Blk (set6 u0 gm (.int .i64 M.gen) (.int .i64 M.cut) (.int .i64 M.fence) (.slice p.AE M.E.length p.cE) (.slice p.AM M.M.length p.cM) (.slice p.AO M.O.length p.cO)) gr 42 (repA 0 A n c ver r3 r4 r5 r6):=hso.blk HR7.out HNm.out.2
 have hS9:(set6 u0 gm (.int .i64 M.gen) (.int .i64 M.cut) (.int .i64 M.fence) (.slice p.AE M.E.length p.cE) (.slice p.AM M.M.length p.cM) (.slice p.AO M.O.length p.cO)).cell? ⟨gx,0,none⟩=some (.int .i64 M.gen)∧(set6 u0 gm (.int .i64 M.gen) (.int .i64 M.cut) (.int .i64 M.fence) (.slice p.AE M.E.length p.cE) (.slice p.AM M.M.length p.cM) (.slice p.AO M.O.length p.cO)).cell? ⟨gx,1,none⟩=some (.int .i64 M.cut)∧(set6 u0 gm (.int .i64 M.gen) (.int .i64 M.cut) (.int .i64 M.fence) (.slice p.AE M.E.length p.cE) (.slice p.AM M.M.length p.cM) (.slice p.AO M.O.length p.cO)).cell? ⟨gx,2,none⟩=some (.int .i64 M.fence)∧(set6 u0 gm (.int .i64 M.gen) (.int .i64 M.cut) (.int .i64 M.fence) (.slice p.AE M.E.length p.cE) (.slice p.AM M.M.length p.cM) (.slice p.AO M.O.length p.cO)).cell? ⟨gx,3,none⟩=some (.slice p.AE M.E.length p.cE)∧(set6 u0 gm (.int .i64 M.gen) (.int .i64 M.cut) (.int .i64 M.fence) (.slice p.AE M.E.length p.cE) (.slice p.AM M.M.length p.cM) (.slice p.AO M.O.length p.cO)).cell? ⟨gx,4,none⟩=some (.slice p.AM M.M.length p.cM)∧(set6 u0 gm (.int .i64 M.gen) (.int .i64 M.cut) (.int .i64 M.fence) (.slice p.AE M.E.length p.cE) (.slice p.AM M.M.length p.cM) (.slice p.AO M.O.length p.cO)).cell? ⟨gx,5,none⟩=some (.slice p.AO M.O.length p.cO)∧(set6 u0 gm (.int .i64 M.gen) (.int .i64 M.cut) (.int .i64 M.fence) (.slice p.AE M.E.length p.cE) (.slice p.AM M.M.length p.cM) (.slice p.AO M.O.length p.cO)).cell? ⟨gr,2,none⟩=some (.int .i64 ver):=⟨hx9.cell 0,hx9.cell 1,hx9.cell 2,hx9.cell 3,hx9.cell 4,hx9.cell 5,hr9.cell 2⟩
 clear hx9 hr9
 unfold set6 at HX8 HC8 HM8 HO8 hS9
 have y0:=HX7.out.cell 0
 have f0:=HX7.out.frozen 0
 have y1:=HX7.out.cell 1
 have f1:=HX7.out.frozen 1
 have y2:=HX7.out.cell 2
 have f2:=HX7.out.frozen 2
 have y3:=HX7.out.cell 3
 have f3:=HX7.out.frozen 3
 have y4:=HX7.out.cell 4
 have f4:=HX7.out.frozen 4
 have y5:=HX7.out.cell 5
 have f5:=HX7.out.frozen 5
 simp only [Ja,Jb,Jc] at y0 y1 y2 y3 y4 y5
 clear hso HX7 HC7 HM7 HO7 HW6
 refine qah (i:=3) (by kernel_rfl) rfl (fun K hK=>?_);go_simp
 refine hK.out _ _ (fun _=>hS9) ?_
 clear hK K f0 y0 f1 y1 f2 y2 f3 y3 f4 y4 f5 y5
 (try simp only [Act.put,Jk,Jg,Ji,Jd,Je,Jf])
 refine qah (i:=4) (by kernel_rfl) rfl (fun K hK=>?_);go_simp
 refine hK.out _ _ (fun _=>hS9) (qaw (by kernel_rfl) ?_ _)
 clear hK K hS9 HX9 HX9' HR7 HR6 HX6 HM6 HC6 HO6
 go_upto_region 28 with fail
 have HNg:Hid (gm≠g):=Jh (HX8.out.ne_ HC8.out.blk (by decide))
 generalize ((((((u0.setCell ⟨gm,0,none⟩ (.int .i64 M.gen)).setCell ⟨gm,1,none⟩ (.int .i64 M.cut)).setCell ⟨gm,2,none⟩ (.int .i64 M.fence)).setCell ⟨gm,3,none⟩ (.slice p.AE M.E.length p.cE)).setCell ⟨gm,4,none⟩ (.slice p.AM M.M.length p.cM)).setCell ⟨gm,5,none⟩ (.slice p.AO M.O.length p.cO))=w8 at *
 have x0:=HX8.out.cell 0
 have x1:=HX8.out.cell 1
 have x2:=HX8.out.cell 2
 have x3:=HX8.out.cell 3
 have x4:=HX8.out.cell 4
 have x5:=HX8.out.cell 5
 simp only [Ja,Jb,Jc] at x0 x1 x2 x3 x4 x5
 have f15:=HC8.out.blk.frozen 15
 have y15:=HC8.out.blk.cell 15
 have f16:=HC8.out.blk.frozen 16
 have y16:=HC8.out.blk.cell 16
 have f17:=HC8.out.blk.frozen 17
 have y17:=HC8.out.blk.cell 17
 have f18:=HC8.out.blk.frozen 18
 have y18:=HC8.out.blk.cell 18
 have f19:=HC8.out.blk.frozen 19
 have y19:=HC8.out.blk.cell 19
 have f20:=HC8.out.blk.frozen 20
 have y20:=HC8.out.blk.cell 20
 have f14:=HC8.out.blk.frozen 14
 have y14:=HC8.out.blk.cell 14
 simp only [Ja,Jb,Jc] at y15 y16 y17 y18 y19 y20 y14
 have b_9:=(((((((HC8.out.blk.set_ 15 (.int .i64 M.gen)).set_ 16 (.int .i64 M.cut)).set_ 17 (.int .i64 M.fence)).set_ 18 (.slice p.AE M.E.length p.cE)).set_ 19 (.slice p.AM M.M.length p.cM)).set_ 20 (.slice p.AO M.O.length p.cO)).set_ 14 (.int .i64 ver))
 simp only [Jd,Je,Jf] at b_9
 have ho_9:Only g w8 (((((((w8.setCell ⟨g,15,none⟩ (.int .i64 M.gen)).setCell ⟨g,16,none⟩ (.int .i64 M.cut)).setCell ⟨g,17,none⟩ (.int .i64 M.fence)).setCell ⟨g,18,none⟩ (.slice p.AE M.E.length p.cE)).setCell ⟨g,19,none⟩ (.slice p.AM M.M.length p.cM)).setCell ⟨g,20,none⟩ (.slice p.AO M.O.length p.cO)).setCell ⟨g,14,none⟩ (.int .i64 ver)):=(((((((Only.refl g w8).setCell (p:=⟨g,15,none⟩) (.inl rfl) (.int .i64 M.gen)).setCell (p:=⟨g,16,none⟩) (.inl rfl) (.int .i64 M.cut)).setCell (p:=⟨g,17,none⟩) (.inl rfl) (.int .i64 M.fence)).setCell (p:=⟨g,18,none⟩) (.inl rfl) (.slice p.AE M.E.length p.cE)).setCell (p:=⟨g,19,none⟩) (.inl rfl) (.slice p.AM M.M.length p.cM)).setCell (p:=⟨g,20,none⟩) (.inl rfl) (.slice p.AO M.O.length p.cO)).setCell (p:=⟨g,14,none⟩) (.inl rfl) (.int .i64 ver)
 have HC9:Hid (DmAt (((((((w8.setCell ⟨g,15,none⟩ (.int .i64 M.gen)).setCell ⟨g,16,none⟩ (.int .i64 M.cut)).setCell ⟨g,17,none⟩ (.int .i64 M.fence)).setCell ⟨g,18,none⟩ (.slice p.AE M.E.length p.cE)).setCell ⟨g,19,none⟩ (.slice p.AM M.M.length p.cM)).setCell ⟨g,20,none⟩ (.slice p.AO M.O.length p.cO)).setCell ⟨g,14,none⟩ (.int .i64 ver)) base g { s with asked:=false,read:=M,ver:=ver } q p pn):=Jh (HC8.out.put ho_9 (s':={ s with asked:=false,read:=M,ver:=ver }) (pr':=p) (pn':=pn) b_9 rfl (Mow.only HM8.out ho_9 HC8.out.blk (by decide) (by decide) (by decide)) (HC8.out.next_ ho_9))
 have HO9:=Jh (HO8.out.trans ho_9)
 have HX9:=Jh (ho_9.blk HX8.out HNg.out)
 clear b_9 ho_9
 go_upto_region 30 with fail
 generalize (((((((w8.setCell ⟨g,15,none⟩ (.int .i64 M.gen)).setCell ⟨g,16,none⟩ (.int .i64 M.cut)).setCell ⟨g,17,none⟩ (.int .i64 M.fence)).setCell ⟨g,18,none⟩ (.slice p.AE M.E.length p.cE)).setCell ⟨g,19,none⟩ (.slice p.AM M.M.length p.cM)).setCell ⟨g,20,none⟩ (.slice p.AO M.O.length p.cO)).setCell ⟨g,14,none⟩ (.int .i64 ver))=w9 at *
 clear x0 x1 x2 x3 x4 x5 f15 y15 f16 y16 f17 y17 f18 y18 f19 y19 f20 y20 f14 y14
 have Hc:Hid (∀ W,Below w9.heap.size w9 W→(W.cell? ⟨gm,0,none⟩=some (.int .i64 M.gen)∧W.cell? ⟨gm,1,none⟩=some (.int .i64 M.cut)∧W.cell? ⟨gm,2,none⟩=some (.int .i64 M.fence)∧W.cell? ⟨gm,3,none⟩=some (.slice p.AE M.E.length p.cE)∧W.cell? ⟨gm,4,none⟩=some (.slice p.AM M.M.length p.cM)∧W.cell? ⟨gm,5,none⟩=some (.slice p.AO M.O.length p.cO))∧W.cell? ⟨g,0,none⟩=some (.slice q.AA s.d.add.length q.cA)∧W.cell? ⟨g,1,none⟩=some (.slice q.AD s.d.drop.length q.cD)∧W.cell? ⟨g,2,none⟩=some (.slice q.AM s.d.marks.length q.cM)∧W.cell? ⟨g,3,none⟩=some (.int .i64 s.d.cut)∧W.cell? ⟨g,4,none⟩=some (.int .i64 s.d.fence)∧W.cell? ⟨g,5,none⟩=some (.int .i64 s.d.by_.agent)∧W.cell? ⟨g,6,none⟩=some (.int .i64 s.d.by_.life)∧W.cell? ⟨g,7,none⟩=some (.int .i64 s.d.by_.count)):=Jh fun W hW=>by
  have h1:=HX9.out.below hW HX9.out.lt
  have h2:=HC9.out.blk.below hW HC9.out.blk.lt
  exact ⟨⟨h1.cell 0,h1.cell 1,h1.cell 2,h1.cell 3,h1.cell 4,h1.cell 5⟩,h2.cell 0,h2.cell 1,h2.cell 2,h2.cell 3,h2.cell 4,h2.cell 5,h2.cell 6,h2.cell 7⟩
 have HDd:=Jh fun W (hW:Below w9.heap.size w9 W)=>hdid W (Mow.good ((HC9.out.below hW).rd) hgM) (Nat.le_refl _) s.d.by_
 have HW0:Hid (Below w9.heap.size w9 w9.drew):=Jh (qaa (Below.refl _ _) 1)
 refine qa4 (fun _=>false) (fun w'=>(w'.cell? ⟨gm,0,none⟩=some (.int .i64 M.gen)∧w'.cell? ⟨gm,1,none⟩=some (.int .i64 M.cut)∧w'.cell? ⟨gm,2,none⟩=some (.int .i64 M.fence)∧w'.cell? ⟨gm,3,none⟩=some (.slice p.AE M.E.length p.cE)∧w'.cell? ⟨gm,4,none⟩=some (.slice p.AM M.M.length p.cM)∧w'.cell? ⟨gm,5,none⟩=some (.slice p.AO M.O.length p.cO))∧w'.cell? ⟨g,0,none⟩=some (.slice q.AA s.d.add.length q.cA)∧w'.cell? ⟨g,1,none⟩=some (.slice q.AD s.d.drop.length q.cD)∧w'.cell? ⟨g,2,none⟩=some (.slice q.AM s.d.marks.length q.cM)∧w'.cell? ⟨g,3,none⟩=some (.int .i64 s.d.cut)∧w'.cell? ⟨g,4,none⟩=some (.int .i64 s.d.fence)∧w'.cell? ⟨g,5,none⟩=some (.int .i64 s.d.by_.agent)∧w'.cell? ⟨g,6,none⟩=some (.int .i64 s.d.by_.life)∧w'.cell? ⟨g,7,none⟩=some (.int .i64 s.d.by_.count)) (by kernel_rfl) (Hc.out _ HW0.out) (fun hHeld=>?_)
 generalize w9.drew=u0 at *
 apply tkC 0
 apply tkC 1
 apply tkC 2
 apply tkC 3
 apply tkC 4
 apply tkC 5
 refine qah (i:=6) (by kernel_rfl) rfl (fun K hK=>?_);go_simp
 refine (HDd.out u0 HW0.out).mono ?_
 rintro en u1 ⟨rfl,hb1⟩
 have HB1:=Jh (HW0.out.trans (hb1.mono HW0.out.size))
 have hS1:=Hc.out _ HB1.out
 refine hK.out _ _ (fun _=>hS1) ?_
 clear hK K hHeld hb1 hS1
 (try simp only [Act.put,Jk,Jg,Ji,Jd,Je,Jf])
 refine qaw (by kernel_rfl) ?_ _
 have HCa:=Jh (HC9.out.below HB1.out)
 have HOa:Hid (Only g w u1):=Jh (HO9.out.trans (Only.of_below HB1.out))
 have HX1:=Jh (HX9.out.below HB1.out HX9.out.lt)
 clear HDd HC9 HO9 HX9 HW0 Hc
 cases hdd:M.O.any (didB s.d.by_)
 ·have HNd:Hid (¬ M.O.any (didB s.d.by_)=true):=Jh (by rw [hdd];simp)
  clear hdd
  go_upto_region 33 with fail
  go_cut [11,12] (fun v6 v7 wx=>∃ W9:World,W9=wx∧∃ (ga:Nat) (pz:Pl),v6=.pointer (some ⟨ga,0,none⟩)∧v7=.int .i64 (appE M s.d)∧Hid (Blk W9 ga 53 #[.int .i64 (appM M s.d).gen,.int .i64 (appM M s.d).cut,.int .i64 (appM M s.d).fence,.slice pz.AE (appM M s.d).E.length pz.cE,.slice pz.AM (appM M s.d).M.length pz.cM,.slice pz.AO (appM M s.d).O.length pz.cO])∧Hid (DmAt W9 base g { s with asked:=false,read:=M,ver:=ver } q p pn)∧Hid (Mow W9 base (appM M s.d) pz)∧Hid (Only g w W9))
  case first =>
   have Hc1:Hid (∀ W,Below u1.heap.size u1 W→(W.cell? ⟨gm,0,none⟩=some (.int .i64 M.gen)∧W.cell? ⟨gm,1,none⟩=some (.int .i64 M.cut)∧W.cell? ⟨gm,2,none⟩=some (.int .i64 M.fence)∧W.cell? ⟨gm,3,none⟩=some (.slice p.AE M.E.length p.cE)∧W.cell? ⟨gm,4,none⟩=some (.slice p.AM M.M.length p.cM)∧W.cell? ⟨gm,5,none⟩=some (.slice p.AO M.O.length p.cO))∧W.cell? ⟨g,0,none⟩=some (.slice q.AA s.d.add.length q.cA)∧W.cell? ⟨g,1,none⟩=some (.slice q.AD s.d.drop.length q.cD)∧W.cell? ⟨g,2,none⟩=some (.slice q.AM s.d.marks.length q.cM)∧W.cell? ⟨g,3,none⟩=some (.int .i64 s.d.cut)∧W.cell? ⟨g,4,none⟩=some (.int .i64 s.d.fence)∧W.cell? ⟨g,5,none⟩=some (.int .i64 s.d.by_.agent)∧W.cell? ⟨g,6,none⟩=some (.int .i64 s.d.by_.life)∧W.cell? ⟨g,7,none⟩=some (.int .i64 s.d.by_.count)):=Jh fun W hW=>by
    have h1:=HX1.out.below hW HX1.out.lt
    have h2:=HCa.out.blk.below hW HCa.out.blk.lt
    exact ⟨⟨h1.cell 0,h1.cell 1,h1.cell 2,h1.cell 3,h1.cell 4,h1.cell 5⟩,h2.cell 0,h2.cell 1,h2.cell 2,h2.cell 3,h2.cell 4,h2.cell 5,h2.cell 6,h2.cell 7⟩
   have HAp:Hid (∀ W,Below u1.heap.size u1 W→Calls Tryz.prog 26 #[mdV M p,edV s.d q] W (RetAp W (appM M s.d) (appE M s.d))):=Jh fun W hW=>hap W (Mow.good ((HCa.out.below hW).rd) hgM) (Edo.edi ((HCa.out.below hW).ed) hge) (Nat.le_refl _) hgM.short hge.short (by have:=hge.a;omega)
   have HW1:Hid (Below u1.heap.size u1 u1.drew):=Jh (qaa (Below.refl _ _) 1)
   refine qa4 (fun _=>false) (fun w'=>(w'.cell? ⟨gm,0,none⟩=some (.int .i64 M.gen)∧w'.cell? ⟨gm,1,none⟩=some (.int .i64 M.cut)∧w'.cell? ⟨gm,2,none⟩=some (.int .i64 M.fence)∧w'.cell? ⟨gm,3,none⟩=some (.slice p.AE M.E.length p.cE)∧w'.cell? ⟨gm,4,none⟩=some (.slice p.AM M.M.length p.cM)∧w'.cell? ⟨gm,5,none⟩=some (.slice p.AO M.O.length p.cO))∧w'.cell? ⟨g,0,none⟩=some (.slice q.AA s.d.add.length q.cA)∧w'.cell? ⟨g,1,none⟩=some (.slice q.AD s.d.drop.length q.cD)∧w'.cell? ⟨g,2,none⟩=some (.slice q.AM s.d.marks.length q.cM)∧w'.cell? ⟨g,3,none⟩=some (.int .i64 s.d.cut)∧w'.cell? ⟨g,4,none⟩=some (.int .i64 s.d.fence)∧w'.cell? ⟨g,5,none⟩=some (.int .i64 s.d.by_.agent)∧w'.cell? ⟨g,6,none⟩=some (.int .i64 s.d.by_.life)∧w'.cell? ⟨g,7,none⟩=some (.int .i64 s.d.by_.count)) (by kernel_rfl) (Hc1.out _ HW1.out) (fun hHeld=>?_)
   generalize u1.drew=v0 at *
   apply tkC 0
   apply tkC 1
   apply tkC 2
   apply tkC 3
   apply tkC 4
   refine qei (i:=5) (j:=9) (by kernel_rfl) rfl rfl (fun K hK=>?_) (fun K hK=>?_)
   ·go_simp
    refine (HAp.out v0 HW1.out).mono ?_
    rintro en v1 ⟨pz,rfl,hmo,hb2⟩
    have HV1:=Jh (HW1.out.trans (hb2.mono HW1.out.size))
    have HMo:=Jh (Mow.mono hmo (b2:=base) (by have:=HCa.out.blk.lt;have:=HCa.out.low;have:=HW1.out.size;omega))
    have hSv:=Hc1.out _ HV1.out
    refine hK.out _ _ (fun _=>hSv) ?_
    clear hK K hHeld hmo hb2
    (try simp only [Act.put,Jk,Jg,Ji,Jd,Je,Jf])
    apply tkC 6
    apply tkC 7
    apply tkC 8
    refine qah (i:=9) (by kernel_rfl) rfl (fun K hK=>?_);go_simp
    have HV2:=Jh (HV1.out.alloc HV1.out.size (.cells #[.int .i64 0,.int .i64 0,.int .i64 0,.slice none 0 0,.slice none 0 0,.slice none 0 0] 53))
    have hSv2:=Hc1.out _ HV2.out
    refine hK.out _ _ (fun _=>hSv2) ?_
    clear hK K hSv
    (try simp only [Act.put,Jk,Jg,Ji,Jd,Je,Jf])
    have hBz:=Blk.new v1 53 #[.int .i64 0,.int .i64 0,.int .i64 0,.slice none 0 0,.slice none 0 0,.slice none 0 0]
    have HMu:=Jh (HMo.out.below ((Below.refl _ _).alloc (Nat.le_refl _) (.cells #[.int .i64 0,.int .i64 0,.int .i64 0,.slice none 0 0,.slice none 0 0,.slice none 0 0] 53)))
    obtain ⟨ga,hga⟩:∃ ga,ga=v1.heap.size:=⟨_,rfl⟩
    have hgal:u1.heap.size≤ga:=by rw [hga];exact HV1.out.size
    rw [← hga] at hBz ⊢
    have HBz:=Jh hBz
    clear hBz hga
    generalize v1.alloc (.cells #[.int .i64 0,.int .i64 0,.int .i64 0,.slice none 0 0,.slice none 0 0,.slice none 0 0] 53)=u at *
    have HCu:=Jh (HCa.out.below HV2.out)
    have HOu:Hid (Only g w u):=Jh (HOa.out.trans (Only.of_below HV2.out))
    have HXu:=Jh (HX1.out.below HV2.out HX1.out.lt)
    have HGa:Hid (w.heap.size≤ga):=Jh (Nat.le_trans HOa.out.size hgal)
    have HGa2:Hid (gm<ga):=Jh (Nat.lt_of_lt_of_le HX1.out.lt hgal)
    clear hgal
    have x0:=HBz.out.cell 0
    have x1:=HBz.out.cell 1
    have x2:=HBz.out.cell 2
    have x3:=HBz.out.cell 3
    have x4:=HBz.out.cell 4
    have x5:=HBz.out.cell 5
    have y0:=HBz.out.frozen 0
    have y1:=HBz.out.frozen 1
    have y2:=HBz.out.frozen 2
    have y3:=HBz.out.frozen 3
    have y4:=HBz.out.frozen 4
    have y5:=HBz.out.frozen 5
    simp only [Ja,Jb,Jc] at x0 x1 x2 x3 x4 x5
    have hso:Only ga u (set6 u ga (.int .i64 (appM M s.d).gen) (.int .i64 (appM M s.d).cut) (.int .i64 (appM M s.d).fence) (.slice pz.AE (appM M s.d).E.length pz.cE) (.slice pz.AM (appM M s.d).M.length pz.cM) (.slice pz.AO (appM M s.d).O.length pz.cO)):=qa2 (Only.refl ga u) _ _ _ _ _ _
    have HB9:=Jh (qan HBz.out (.int .i64 (appM M s.d).gen) (.int .i64 (appM M s.d).cut) (.int .i64 (appM M s.d).fence) (.slice pz.AE (appM M s.d).E.length pz.cE) (.slice pz.AM (appM M s.d).M.length pz.cM) (.slice pz.AO (appM M s.d).O.length pz.cO))
    have HC9:=Jh (HCu.out.other hso HBz.out (by decide) (by decide) (by decide) (by decide) (by decide))
    have HM9:=Jh (Mow.only HMu.out hso HBz.out (by decide) (by decide) (by decide))
    have HO9:Hid (Only g w (set6 u ga (.int .i64 (appM M s.d).gen) (.int .i64 (appM M s.d).cut) (.int .i64 (appM M s.d).fence) (.slice pz.AE (appM M s.d).E.length pz.cE) (.slice pz.AM (appM M s.d).M.length pz.cM) (.slice pz.AO (appM M s.d).O.length pz.cO))):=Jh (qdt HOu.out HGa.out _ _ _ _ _ _)
    have hgmx:Blk (set6 u ga (.int .i64 (appM M s.d).gen) (.int .i64 (appM M s.d).cut) (.int .i64 (appM M s.d).fence) (.slice pz.AE (appM M s.d).E.length pz.cE) (.slice pz.AM (appM M s.d).M.length pz.cM) (.slice pz.AO (appM M s.d).O.length pz.cO)) gm 53 #[.int .i64 M.gen,.int .i64 M.cut,.int .i64 M.fence,.slice p.AE M.E.length p.cE,.slice p.AM M.M.length p.cM,.slice p.AO M.O.length p.cO]:=hso.blk HXu.out (by have:=HGa2.out;omega)
    have hS9:((set6 u ga (.int .i64 (appM M s.d).gen) (.int .i64 (appM M s.d).cut) (.int .i64 (appM M s.d).fence) (.slice pz.AE (appM M s.d).E.length pz.cE) (.slice pz.AM (appM M s.d).M.length pz.cM) (.slice pz.AO (appM M s.d).O.length pz.cO)).cell? ⟨gm,0,none⟩=some (.int .i64 M.gen)∧(set6 u ga (.int .i64 (appM M s.d).gen) (.int .i64 (appM M s.d).cut) (.int .i64 (appM M s.d).fence) (.slice pz.AE (appM M s.d).E.length pz.cE) (.slice pz.AM (appM M s.d).M.length pz.cM) (.slice pz.AO (appM M s.d).O.length pz.cO)).cell? ⟨gm,1,none⟩=some (.int .i64 M.cut)∧(set6 u ga (.int .i64 (appM M s.d).gen) (.int .i64 (appM M s.d).cut) (.int .i64 (appM M s.d).fence) (.slice pz.AE (appM M s.d).E.length pz.cE) (.slice pz.AM (appM M s.d).M.length pz.cM) (.slice pz.AO (appM M s.d).O.length pz.cO)).cell? ⟨gm,2,none⟩=some (.int .i64 M.fence)∧(set6 u ga (.int .i64 (appM M s.d).gen) (.int .i64 (appM M s.d).cut) (.int .i64 (appM M s.d).fence) (.slice pz.AE (appM M s.d).E.length pz.cE) (.slice pz.AM (appM M s.d).M.length pz.cM) (.slice pz.AO (appM M s.d).O.length pz.cO)).cell? ⟨gm,3,none⟩=some (.slice p.AE M.E.length p.cE)∧(set6 u ga (.int .i64 (appM M s.d).gen) (.int .i64 (appM M s.d).cut) (.int .i64 (appM M s.d).fence) (.slice pz.AE (appM M s.d).E.length pz.cE) (.slice pz.AM (appM M s.d).M.length pz.cM) (.slice pz.AO (appM M s.d).O.length pz.cO)).cell? ⟨gm,4,none⟩=some (.slice p.AM M.M.length p.cM)∧(set6 u ga (.int .i64 (appM M s.d).gen) (.int .i64 (appM M s.d).cut) (.int .i64 (appM M s.d).fence) (.slice pz.AE (appM M s.d).E.length pz.cE) (.slice pz.AM (appM M s.d).M.length pz.cM) (.slice pz.AO (appM M s.d).O.length pz.cO)).cell? ⟨gm,5,none⟩=some (.slice p.AO M.O.length p.cO))∧(set6 u ga (.int .i64 (appM M s.d).gen) (.int .i64 (appM M s.d).cut) (.int .i64 (appM M s.d).fence) (.slice pz.AE (appM M s.d).E.length pz.cE) (.slice pz.AM (appM M s.d).M.length pz.cM) (.slice pz.AO (appM M s.d).O.length pz.cO)).cell? ⟨g,0,none⟩=some (.slice q.AA s.d.add.length q.cA)∧(set6 u ga (.int .i64 (appM M s.d).gen) (.int .i64 (appM M s.d).cut) (.int .i64 (appM M s.d).fence) (.slice pz.AE (appM M s.d).E.length pz.cE) (.slice pz.AM (appM M s.d).M.length pz.cM) (.slice pz.AO (appM M s.d).O.length pz.cO)).cell? ⟨g,1,none⟩=some (.slice q.AD s.d.drop.length q.cD)∧(set6 u ga (.int .i64 (appM M s.d).gen) (.int .i64 (appM M s.d).cut) (.int .i64 (appM M s.d).fence) (.slice pz.AE (appM M s.d).E.length pz.cE) (.slice pz.AM (appM M s.d).M.length pz.cM) (.slice pz.AO (appM M s.d).O.length pz.cO)).cell? ⟨g,2,none⟩=some (.slice q.AM s.d.marks.length q.cM)∧(set6 u ga (.int .i64 (appM M s.d).gen) (.int .i64 (appM M s.d).cut) (.int .i64 (appM M s.d).fence) (.slice pz.AE (appM M s.d).E.length pz.cE) (.slice pz.AM (appM M s.d).M.length pz.cM) (.slice pz.AO (appM M s.d).O.length pz.cO)).cell? ⟨g,3,none⟩=some (.int .i64 s.d.cut)∧(set6 u ga (.int .i64 (appM M s.d).gen) (.int .i64 (appM M s.d).cut) (.int .i64 (appM M s.d).fence) (.slice pz.AE (appM M s.d).E.length pz.cE) (.slice pz.AM (appM M s.d).M.length pz.cM) (.slice pz.AO (appM M s.d).O.length pz.cO)).cell? ⟨g,4,none⟩=some (.int .i64 s.d.fence)∧(set6 u ga (.int .i64 (appM M s.d).gen) (.int .i64 (appM M s.d).cut) (.int .i64 (appM M s.d).fence) (.slice pz.AE (appM M s.d).E.length pz.cE) (.slice pz.AM (appM M s.d).M.length pz.cM) (.slice pz.AO (appM M s.d).O.length pz.cO)).cell? ⟨g,5,none⟩=some (.int .i64 s.d.by_.agent)∧(set6 u ga (.int .i64 (appM M s.d).gen) (.int .i64 (appM M s.d).cut) (.int .i64 (appM M s.d).fence) (.slice pz.AE (appM M s.d).E.length pz.cE) (.slice pz.AM (appM M s.d).M.length pz.cM) (.slice pz.AO (appM M s.d).O.length pz.cO)).cell? ⟨g,6,none⟩=some (.int .i64 s.d.by_.life)∧(set6 u ga (.int .i64 (appM M s.d).gen) (.int .i64 (appM M s.d).cut) (.int .i64 (appM M s.d).fence) (.slice pz.AE (appM M s.d).E.length pz.cE) (.slice pz.AM (appM M s.d).M.length pz.cM) (.slice pz.AO (appM M s.d).O.length pz.cO)).cell? ⟨g,7,none⟩=some (.int .i64 s.d.by_.count):=⟨⟨hgmx.cell 0,hgmx.cell 1,hgmx.cell 2,hgmx.cell 3,hgmx.cell 4,hgmx.cell 5⟩,HC9.out.blk.cell 0,HC9.out.blk.cell 1,HC9.out.blk.cell 2,HC9.out.blk.cell 3,HC9.out.blk.cell 4,HC9.out.blk.cell 5,HC9.out.blk.cell 6,HC9.out.blk.cell 7⟩
    unfold set6 at hS9
    clear hso hgmx
    refine qah (i:=10) (by kernel_rfl) rfl (fun K hK=>?_);go_simp
    refine hK.out _ _ (fun _=>hS9) ?_
    clear hK K x0 x1 x2 x3 x4 x5 y0 y1 y2 y3 y4 y5
    (try simp only [Act.put,Jk,Jg,Ji,Jd,Je,Jf])
    refine qah (i:=11) (by kernel_rfl) rfl (fun K hK=>?_);go_simp
    refine hK.out _ _ (fun _=>hS9) (qaw (by kernel_rfl) ?_ _)
    clear hK K hS9
    go_wp2
    go_meet
    case rel=>exact ⟨_,rfl,ga,pz,rfl,rfl,HB9,HC9,HM9,HO9⟩
   ·go_simp
    have HV1:=Jh (HW1.out.alloc HW1.out.size (.cells #[.int .i64 0,.int .i64 0,.int .i64 0,.slice none 0 0,.slice none 0 0,.slice none 0 0] 53))
    have hSv:=Hc1.out _ HV1.out
    refine hK.out _ _ (fun _=>hSv) ?_
    clear hK K hHeld
    (try simp only [Act.put,Jk,Jg,Ji,Jd,Je,Jf])
    have hBz0:=Blk.new v0 53 #[.int .i64 0,.int .i64 0,.int .i64 0,.slice none 0 0,.slice none 0 0,.slice none 0 0]
    obtain ⟨ga,hga⟩:∃ ga,ga=v0.heap.size:=⟨_,rfl⟩
    have hgal:u1.heap.size≤ga:=by rw [hga];exact HW1.out.size
    rw [← hga] at hBz0 ⊢
    have HBz0:=Jh hBz0
    clear hBz0 hga
    generalize v0.alloc (.cells #[.int .i64 0,.int .i64 0,.int .i64 0,.slice none 0 0,.slice none 0 0,.slice none 0 0] 53)=v1 at *
    refine qah (i:=5) (by kernel_rfl) rfl (fun K hK=>?_);go_simp
    refine (HAp.out v1 HV1.out).mono ?_
    rintro en u ⟨pz,rfl,hmo,hb2⟩
    have HV2:=Jh (HV1.out.trans (hb2.mono HV1.out.size))
    have HBz:=Jh (HBz0.out.below hb2 HBz0.out.lt)
    have HMu:=Jh (Mow.mono hmo (b2:=base) (by have:=HCa.out.blk.lt;have:=HCa.out.low;have:=HV1.out.size;omega))
    have hSv2:=Hc1.out _ HV2.out
    refine hK.out _ _ (fun _=>hSv2) ?_
    clear hK K hSv hmo hb2
    (try simp only [Act.put,Jk,Jg,Ji,Jd,Je,Jf])
    apply tkC 6
    apply tkC 7
    apply tkC 8
    have HCu:=Jh (HCa.out.below HV2.out)
    have HOu:Hid (Only g w u):=Jh (HOa.out.trans (Only.of_below HV2.out))
    have HXu:=Jh (HX1.out.below HV2.out HX1.out.lt)
    have HGa:Hid (w.heap.size≤ga):=Jh (Nat.le_trans HOa.out.size hgal)
    have HGa2:Hid (gm<ga):=Jh (Nat.lt_of_lt_of_le HX1.out.lt hgal)
    clear hgal
    have x0:=HBz.out.cell 0
    have x1:=HBz.out.cell 1
    have x2:=HBz.out.cell 2
    have x3:=HBz.out.cell 3
    have x4:=HBz.out.cell 4
    have x5:=HBz.out.cell 5
    have y0:=HBz.out.frozen 0
    have y1:=HBz.out.frozen 1
    have y2:=HBz.out.frozen 2
    have y3:=HBz.out.frozen 3
    have y4:=HBz.out.frozen 4
    have y5:=HBz.out.frozen 5
    simp only [Ja,Jb,Jc] at x0 x1 x2 x3 x4 x5
    have hso:Only ga u (set6 u ga (.int .i64 (appM M s.d).gen) (.int .i64 (appM M s.d).cut) (.int .i64 (appM M s.d).fence) (.slice pz.AE (appM M s.d).E.length pz.cE) (.slice pz.AM (appM M s.d).M.length pz.cM) (.slice pz.AO (appM M s.d).O.length pz.cO)):=qa2 (Only.refl ga u) _ _ _ _ _ _
    have HB9:=Jh (qan HBz.out (.int .i64 (appM M s.d).gen) (.int .i64 (appM M s.d).cut) (.int .i64 (appM M s.d).fence) (.slice pz.AE (appM M s.d).E.length pz.cE) (.slice pz.AM (appM M s.d).M.length pz.cM) (.slice pz.AO (appM M s.d).O.length pz.cO))
    have HC9:=Jh (HCu.out.other hso HBz.out (by decide) (by decide) (by decide) (by decide) (by decide))
    have HM9:=Jh (Mow.only HMu.out hso HBz.out (by decide) (by decide) (by decide))
    have HO9:Hid (Only g w (set6 u ga (.int .i64 (appM M s.d).gen) (.int .i64 (appM M s.d).cut) (.int .i64 (appM M s.d).fence) (.slice pz.AE (appM M s.d).E.length pz.cE) (.slice pz.AM (appM M s.d).M.length pz.cM) (.slice pz.AO (appM M s.d).O.length pz.cO))):=Jh (qdt HOu.out HGa.out _ _ _ _ _ _)
    have hgmx:Blk (set6 u ga (.int .i64 (appM M s.d).gen) (.int .i64 (appM M s.d).cut) (.int .i64 (appM M s.d).fence) (.slice pz.AE (appM M s.d).E.length pz.cE) (.slice pz.AM (appM M s.d).M.length pz.cM) (.slice pz.AO (appM M s.d).O.length pz.cO)) gm 53 #[.int .i64 M.gen,.int .i64 M.cut,.int .i64 M.fence,.slice p.AE M.E.length p.cE,.slice p.AM M.M.length p.cM,.slice p.AO M.O.length p.cO]:=hso.blk HXu.out (by have:=HGa2.out;omega)
    have hS9:((set6 u ga (.int .i64 (appM M s.d).gen) (.int .i64 (appM M s.d).cut) (.int .i64 (appM M s.d).fence) (.slice pz.AE (appM M s.d).E.length pz.cE) (.slice pz.AM (appM M s.d).M.length pz.cM) (.slice pz.AO (appM M s.d).O.length pz.cO)).cell? ⟨gm,0,none⟩=some (.int .i64 M.gen)∧(set6 u ga (.int .i64 (appM M s.d).gen) (.int .i64 (appM M s.d).cut) (.int .i64 (appM M s.d).fence) (.slice pz.AE (appM M s.d).E.length pz.cE) (.slice pz.AM (appM M s.d).M.length pz.cM) (.slice pz.AO (appM M s.d).O.length pz.cO)).cell? ⟨gm,1,none⟩=some (.int .i64 M.cut)∧(set6 u ga (.int .i64 (appM M s.d).gen) (.int .i64 (appM M s.d).cut) (.int .i64 (appM M s.d).fence) (.slice pz.AE (appM M s.d).E.length pz.cE) (.slice pz.AM (appM M s.d).M.length pz.cM) (.slice pz.AO (appM M s.d).O.length pz.cO)).cell? ⟨gm,2,none⟩=some (.int .i64 M.fence)∧(set6 u ga (.int .i64 (appM M s.d).gen) (.int .i64 (appM M s.d).cut) (.int .i64 (appM M s.d).fence) (.slice pz.AE (appM M s.d).E.length pz.cE) (.slice pz.AM (appM M s.d).M.length pz.cM) (.slice pz.AO (appM M s.d).O.length pz.cO)).cell? ⟨gm,3,none⟩=some (.slice p.AE M.E.length p.cE)∧(set6 u ga (.int .i64 (appM M s.d).gen) (.int .i64 (appM M s.d).cut) (.int .i64 (appM M s.d).fence) (.slice pz.AE (appM M s.d).E.length pz.cE) (.slice pz.AM (appM M s.d).M.length pz.cM) (.slice pz.AO (appM M s.d).O.length pz.cO)).cell? ⟨gm,4,none⟩=some (.slice p.AM M.M.length p.cM)∧(set6 u ga (.int .i64 (appM M s.d).gen) (.int .i64 (appM M s.d).cut) (.int .i64 (appM M s.d).fence) (.slice pz.AE (appM M s.d).E.length pz.cE) (.slice pz.AM (appM M s.d).M.length pz.cM) (.slice pz.AO (appM M s.d).O.length pz.cO)).cell? ⟨gm,5,none⟩=some (.slice p.AO M.O.length p.cO))∧(set6 u ga (.int .i64 (appM M s.d).gen) (.int .i64 (appM M s.d).cut) (.int .i64 (appM M s.d).fence) (.slice pz.AE (appM M s.d).E.length pz.cE) (.slice pz.AM (appM M s.d).M.length pz.cM) (.slice pz.AO (appM M s.d).O.length pz.cO)).cell? ⟨g,0,none⟩=some (.slice q.AA s.d.add.length q.cA)∧(set6 u ga (.int .i64 (appM M s.d).gen) (.int .i64 (appM M s.d).cut) (.int .i64 (appM M s.d).fence) (.slice pz.AE (appM M s.d).E.length pz.cE) (.slice pz.AM (appM M s.d).M.length pz.cM) (.slice pz.AO (appM M s.d).O.length pz.cO)).cell? ⟨g,1,none⟩=some (.slice q.AD s.d.drop.length q.cD)∧(set6 u ga (.int .i64 (appM M s.d).gen) (.int .i64 (appM M s.d).cut) (.int .i64 (appM M s.d).fence) (.slice pz.AE (appM M s.d).E.length pz.cE) (.slice pz.AM (appM M s.d).M.length pz.cM) (.slice pz.AO (appM M s.d).O.length pz.cO)).cell? ⟨g,2,none⟩=some (.slice q.AM s.d.marks.length q.cM)∧(set6 u ga (.int .i64 (appM M s.d).gen) (.int .i64 (appM M s.d).cut) (.int .i64 (appM M s.d).fence) (.slice pz.AE (appM M s.d).E.length pz.cE) (.slice pz.AM (appM M s.d).M.length pz.cM) (.slice pz.AO (appM M s.d).O.length pz.cO)).cell? ⟨g,3,none⟩=some (.int .i64 s.d.cut)∧(set6 u ga (.int .i64 (appM M s.d).gen) (.int .i64 (appM M s.d).cut) (.int .i64 (appM M s.d).fence) (.slice pz.AE (appM M s.d).E.length pz.cE) (.slice pz.AM (appM M s.d).M.length pz.cM) (.slice pz.AO (appM M s.d).O.length pz.cO)).cell? ⟨g,4,none⟩=some (.int .i64 s.d.fence)∧(set6 u ga (.int .i64 (appM M s.d).gen) (.int .i64 (appM M s.d).cut) (.int .i64 (appM M s.d).fence) (.slice pz.AE (appM M s.d).E.length pz.cE) (.slice pz.AM (appM M s.d).M.length pz.cM) (.slice pz.AO (appM M s.d).O.length pz.cO)).cell? ⟨g,5,none⟩=some (.int .i64 s.d.by_.agent)∧(set6 u ga (.int .i64 (appM M s.d).gen) (.int .i64 (appM M s.d).cut) (.int .i64 (appM M s.d).fence) (.slice pz.AE (appM M s.d).E.length pz.cE) (.slice pz.AM (appM M s.d).M.length pz.cM) (.slice pz.AO (appM M s.d).O.length pz.cO)).cell? ⟨g,6,none⟩=some (.int .i64 s.d.by_.life)∧(set6 u ga (.int .i64 (appM M s.d).gen) (.int .i64 (appM M s.d).cut) (.int .i64 (appM M s.d).fence) (.slice pz.AE (appM M s.d).E.length pz.cE) (.slice pz.AM (appM M s.d).M.length pz.cM) (.slice pz.AO (appM M s.d).O.length pz.cO)).cell? ⟨g,7,none⟩=some (.int .i64 s.d.by_.count):=⟨⟨hgmx.cell 0,hgmx.cell 1,hgmx.cell 2,hgmx.cell 3,hgmx.cell 4,hgmx.cell 5⟩,HC9.out.blk.cell 0,HC9.out.blk.cell 1,HC9.out.blk.cell 2,HC9.out.blk.cell 3,HC9.out.blk.cell 4,HC9.out.blk.cell 5,HC9.out.blk.cell 6,HC9.out.blk.cell 7⟩
    unfold set6 at hS9
    clear hso hgmx
    refine qah (i:=10) (by kernel_rfl) rfl (fun K hK=>?_);go_simp
    refine hK.out _ _ (fun _=>hS9) ?_
    clear hK K x0 x1 x2 x3 x4 x5 y0 y1 y2 y3 y4 y5
    (try simp only [Act.put,Jk,Jg,Ji,Jd,Je,Jf])
    refine qah (i:=11) (by kernel_rfl) rfl (fun K hK=>?_);go_simp
    refine hK.out _ _ (fun _=>hS9) (qaw (by kernel_rfl) ?_ _)
    clear hK K hS9
    go_wp2
    go_meet
    case rel=>exact ⟨_,rfl,ga,pz,rfl,rfl,HB9,HC9,HM9,HO9⟩
  case rest =>
   obtain ⟨w5,rfl,ga,pz,rfl,rfl,HBa,HC5,HM5,HO5⟩:=hcut
   clear HCa HOa HB1 HX1
   by_cases he5:appE M s.d=0
   ·have e0:(appE M s.d != 0)=false:=nef he5
    have HSaw:Hid (sawD { s with asked:=false } M ver={ s with asked:=false,read:=M,ver:=ver,next:=appM M s.d,writes:=true }):=Jh (by unfold sawD;rw [if_neg HNd.out,if_neg (by dsimp only;omega)])
    have x0:=HBa.out.cell 0
    have x1:=HBa.out.cell 1
    have x2:=HBa.out.cell 2
    have x3:=HBa.out.cell 3
    have x4:=HBa.out.cell 4
    have x5:=HBa.out.cell 5
    simp only [Ja,Jb,Jc] at x0 x1 x2 x3 x4 x5
    have f21:=HC5.out.blk.frozen 21
    have y21:=HC5.out.blk.cell 21
    have f22:=HC5.out.blk.frozen 22
    have y22:=HC5.out.blk.cell 22
    have f23:=HC5.out.blk.frozen 23
    have y23:=HC5.out.blk.cell 23
    have f24:=HC5.out.blk.frozen 24
    have y24:=HC5.out.blk.cell 24
    have f25:=HC5.out.blk.frozen 25
    have y25:=HC5.out.blk.cell 25
    have f26:=HC5.out.blk.frozen 26
    have y26:=HC5.out.blk.cell 26
    have f10:=HC5.out.blk.frozen 10
    have y10:=HC5.out.blk.cell 10
    simp only [Ja,Jb,Jc] at y21 y22 y23 y24 y25 y26 y10
    have b_F:=(((((((HC5.out.blk.set_ 21 (.int .i64 (appM M s.d).gen)).set_ 22 (.int .i64 (appM M s.d).cut)).set_ 23 (.int .i64 (appM M s.d).fence)).set_ 24 (.slice pz.AE (appM M s.d).E.length pz.cE)).set_ 25 (.slice pz.AM (appM M s.d).M.length pz.cM)).set_ 26 (.slice pz.AO (appM M s.d).O.length pz.cO)).set_ 10 (.bool true))
    simp only [Jd,Je,Jf] at b_F
    have ho_F:Only g w5 (((((((w5.setCell ⟨g,21,none⟩ (.int .i64 (appM M s.d).gen)).setCell ⟨g,22,none⟩ (.int .i64 (appM M s.d).cut)).setCell ⟨g,23,none⟩ (.int .i64 (appM M s.d).fence)).setCell ⟨g,24,none⟩ (.slice pz.AE (appM M s.d).E.length pz.cE)).setCell ⟨g,25,none⟩ (.slice pz.AM (appM M s.d).M.length pz.cM)).setCell ⟨g,26,none⟩ (.slice pz.AO (appM M s.d).O.length pz.cO)).setCell ⟨g,10,none⟩ (.bool true)):=(((((((Only.refl g w5).setCell (p:=⟨g,21,none⟩) (.inl rfl) (.int .i64 (appM M s.d).gen)).setCell (p:=⟨g,22,none⟩) (.inl rfl) (.int .i64 (appM M s.d).cut)).setCell (p:=⟨g,23,none⟩) (.inl rfl) (.int .i64 (appM M s.d).fence)).setCell (p:=⟨g,24,none⟩) (.inl rfl) (.slice pz.AE (appM M s.d).E.length pz.cE)).setCell (p:=⟨g,25,none⟩) (.inl rfl) (.slice pz.AM (appM M s.d).M.length pz.cM)).setCell (p:=⟨g,26,none⟩) (.inl rfl) (.slice pz.AO (appM M s.d).O.length pz.cO)).setCell (p:=⟨g,10,none⟩) (.inl rfl) (.bool true)
    have HCF:Hid (DmAt (((((((w5.setCell ⟨g,21,none⟩ (.int .i64 (appM M s.d).gen)).setCell ⟨g,22,none⟩ (.int .i64 (appM M s.d).cut)).setCell ⟨g,23,none⟩ (.int .i64 (appM M s.d).fence)).setCell ⟨g,24,none⟩ (.slice pz.AE (appM M s.d).E.length pz.cE)).setCell ⟨g,25,none⟩ (.slice pz.AM (appM M s.d).M.length pz.cM)).setCell ⟨g,26,none⟩ (.slice pz.AO (appM M s.d).O.length pz.cO)).setCell ⟨g,10,none⟩ (.bool true)) base g { s with asked:=false,read:=M,ver:=ver,next:=appM M s.d,writes:=true } q p pz):=Jh (HC5.out.put ho_F (s':={ s with asked:=false,read:=M,ver:=ver,next:=appM M s.d,writes:=true }) (pr':=p) (pn':=pz) b_F rfl (HC5.out.read_ ho_F) (Mow.only HM5.out ho_F HC5.out.blk (by decide) (by decide) (by decide)))
    have HOF:=Jh (HO5.out.trans ho_F)
    clear b_F ho_F
    clear he5
    go_wp2
    go_ret
    exact ⟨rfl,_,_,by rw [HTg.out,HSaw.out];exact HCF.out,HOF.out⟩
   ·have e0:(appE M s.d != 0)=true:=net he5
    have HSaw:Hid (sawD { s with asked:=false } M ver={ s with asked:=false,read:=M,ver:=ver,st:=2,er:=appE M s.d }):=Jh (by unfold sawD;rw [if_neg HNd.out,if_pos he5])
    have f27:=HC5.out.blk.frozen 27
    have y27:=HC5.out.blk.cell 27
    have f28:=HC5.out.blk.frozen 28
    have y28:=HC5.out.blk.cell 28
    simp only [Ja,Jb,Jc] at y27 y28
    have b_E:=((HC5.out.blk.set_ 27 (.int .i64 2)).set_ 28 (.int .i64 (appE M s.d)))
    simp only [Jd,Je,Jf] at b_E
    have ho_E:Only g w5 ((w5.setCell ⟨g,27,none⟩ (.int .i64 2)).setCell ⟨g,28,none⟩ (.int .i64 (appE M s.d))):=((Only.refl g w5).setCell (p:=⟨g,27,none⟩) (.inl rfl) (.int .i64 2)).setCell (p:=⟨g,28,none⟩) (.inl rfl) (.int .i64 (appE M s.d))
    have HCE:Hid (DmAt ((w5.setCell ⟨g,27,none⟩ (.int .i64 2)).setCell ⟨g,28,none⟩ (.int .i64 (appE M s.d))) base g { s with asked:=false,read:=M,ver:=ver,st:=2,er:=appE M s.d } q p pn):=Jh (HC5.out.put ho_E (s':={ s with asked:=false,read:=M,ver:=ver,st:=2,er:=appE M s.d }) (pr':=p) (pn':=pn) b_E rfl (HC5.out.read_ ho_E) (HC5.out.next_ ho_E))
    have HOE:=Jh (HO5.out.trans ho_E)
    clear b_E ho_E
    clear he5
    go_wp2
    go_ret
    exact ⟨rfl,_,_,by rw [HTg.out,HSaw.out];exact HCE.out,HOE.out⟩
 ·have HSaw:Hid (sawD { s with asked:=false } M ver={ s with asked:=false,read:=M,ver:=ver,st:=1 }):=Jh (by unfold sawD;rw [if_pos hdd])
  clear hdd
  have f27:=HCa.out.blk.frozen 27
  have y27:=HCa.out.blk.cell 27
  simp only [Ja,Jb,Jc] at y27
  have b_D:=(HCa.out.blk.set_ 27 (.int .i64 1))
  simp only [Jd,Je,Jf] at b_D
  have ho_D:Only g u1 (u1.setCell ⟨g,27,none⟩ (.int .i64 1)):=(Only.refl g u1).setCell (p:=⟨g,27,none⟩) (.inl rfl) (.int .i64 1)
  have HCD:Hid (DmAt (u1.setCell ⟨g,27,none⟩ (.int .i64 1)) base g { s with asked:=false,read:=M,ver:=ver,st:=1 } q p pn):=Jh (HCa.out.put ho_D (s':={ s with asked:=false,read:=M,ver:=ver,st:=1 }) (pr':=p) (pn':=pn) b_D rfl (HCa.out.read_ ho_D) (HCa.out.next_ ho_D))
  have HOD:=Jh (HOa.out.trans ho_D)
  clear b_D ho_D
  go_wp2
  go_ret
  exact ⟨rfl,_,_,by rw [HTg.out,HSaw.out];exact HCD.out,HOD.out⟩
end
end Go.Proofs.YtibnehaibgbliaaGreat.Mf
