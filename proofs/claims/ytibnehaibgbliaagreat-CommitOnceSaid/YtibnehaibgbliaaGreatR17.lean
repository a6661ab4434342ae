/- Laws for the row's walk. -/
import Derived.Test.YtibnehaibgbliaaGreatR12
set_option linter.unusedVariables false
set_option linter.unusedSimpArgs false
open Go.Lib renaming hid → Jh
open List renaming getElem?_toArray → Ja, getElem?_cons_zero → Jb, getElem?_cons_succ → Jc, setIfInBounds_toArray → Jd, set_cons_zero → Je, set_cons_succ → Jf, getElem_cons_zero → Jg, getElem_cons_succ → Ji, getElem_toArray → Jk
namespace Go.Proofs.YtibnehaibgbliaaGreat.Mf
open Go.RowKit Go.Proofs.YtibnehaibgbliaaGreat
def ApplyC:Prop:=∀ (w:World) {B:Nat} {m:Md} {p:Pl} {d:Ed} {q:Pd},Man w B m p→Edi w B d q→B≤w.heap.size→Short m.E→Short d.add→Sh w→Calls Tryz.prog 64 #[mdV m p,edV d q] w (RetAp w (appM m d) (appE m d))
def setR (w:World) (g:Nat) (m:Md) (p:Pl) (ver:Int):World:=((((((w.setCell ⟨g,15,none⟩ (.int .i64 m.gen)).setCell ⟨g,16,none⟩ (.int .i64 m.cut)).setCell ⟨g,17,none⟩ (.int .i64 m.fence)).setCell ⟨g,18,none⟩ (.slice p.AE m.E.length p.cE)).setCell ⟨g,19,none⟩ (.slice p.AM m.M.length p.cM)).setCell ⟨g,20,none⟩ (.slice p.AO m.O.length p.cO)).setCell ⟨g,12,none⟩ (.int .i64 ver)
theorem setR_only {a w:World} {g:Nat} (h:Only g a w) (m:Md) (p:Pl) (ver:Int):Only g a (setR w g m p ver) :=
 ((((((h.setCell (p:=⟨g,15,none⟩) (.inl rfl) _).setCell (p:=⟨g,16,none⟩) (.inl rfl) _).setCell (p:=⟨g,17,none⟩) (.inl rfl) _).setCell (p:=⟨g,18,none⟩) (.inl rfl) _).setCell (p:=⟨g,19,none⟩) (.inl rfl) _).setCell (p:=⟨g,20,none⟩) (.inl rfl) _).setCell (p:=⟨g,12,none⟩) (.inl rfl) _
theorem setR_blk {w:World} {g:Nat} {s:Cst} {q:Pd} {pr pn:Pl} (h:Blk w g 92 (cmA s q pr pn)) (m:Md) (p:Pl) (ver:Int):Blk (setR w g m p ver) g 92 (cmA { s with read:=m,ver:=ver } q p pn):=by
 have:=((((((h.set_ 15 (.int .i64 m.gen)).set_ 16 (.int .i64 m.cut)).set_ 17 (.int .i64 m.fence)).set_ 18 (.slice p.AE m.E.length p.cE)).set_ 19 (.slice p.AM m.M.length p.cM)).set_ 20 (.slice p.AO m.O.length p.cO)).set_ 12 (.int .i64 ver)
 simp only [Jd,Je,Jf] at this
 exact this
theorem setR_far {w:World} {g k:Nat} {t:TypeId} {cs:Array Value} (h:Blk w k t cs) (hk:k≠g) (m:Md) (p:Pl) (ver:Int):Blk (setR w g m p ver) k t cs :=
 ((((((h.far (p:=⟨g,15,none⟩) hk _).far (p:=⟨g,16,none⟩) hk _).far (p:=⟨g,17,none⟩) hk _).far (p:=⟨g,18,none⟩) hk _).far (p:=⟨g,19,none⟩) hk _).far (p:=⟨g,20,none⟩) hk _).far (p:=⟨g,12,none⟩) hk _
theorem Sp_set6 {a w:World} {k g:Nat} (h:Only k a w) (hg:a.heap.size≤g) (v0 v1 v2 v3 v4 v5:Value):Only k a (set6 w g v0 v1 v2 v3 v4 v5) :=
 (((((h.setCell (p:=⟨g,0,none⟩) (.inr hg) v0).setCell (p:=⟨g,1,none⟩) (.inr hg) v1).setCell (p:=⟨g,2,none⟩) (.inr hg) v2).setCell (p:=⟨g,3,none⟩) (.inr hg) v3).setCell (p:=⟨g,4,none⟩) (.inr hg) v4).setCell (p:=⟨g,5,none⟩) (.inr hg) v5
def RetSaw (w:World) (base g:Nat) (s:Cst) (q:Pd) (m:Md) (ver:Int) (e:Ending) (w':World):Prop:=e=.returned (.tuple #[])∧∃ pr pn,CmAt w' base g (sawS s m ver) q pr pn∧Only g w w'
set_option maxRecDepth 100000 in
set_option maxHeartbeats 6400000 in
theorem saw_calls (hap:ApplyC) (w:World) {base g:Nat} {s:Cst} {q:Pd} {pr pn:Pl} (h:CmAt w base g s q pr pn) (hb0:0<base) {m:Md} {p:Pl} (hm:Mow w base m p) (hgm:Gd m) (hge:Ge s.d) (ver:Int) (hsh:Sh w) :
  Calls Tryz.prog 32 #[.pointer (some ⟨g,0,none⟩),mdV m p,.int .i64 ver] w (RetSaw w base g s q m ver):=by
 have hk:=h.blk.alloc (.cells #[.int .i64 m.gen,.int .i64 m.cut,.int .i64 m.fence,.slice p.AE m.E.length p.cE,.slice p.AM m.M.length p.cM,.slice p.AO m.O.length p.cO] 53)
 have hx:=Blk.new w 53 #[.int .i64 m.gen,.int .i64 m.cut,.int .i64 m.fence,.slice p.AE m.E.length p.cE,.slice p.AM m.M.length p.cM,.slice p.AO m.O.length p.cO]
 have hne:w.heap.size≠g:=by have:=h.blk.lt;omega
 have ho:Only g w (setR (w.alloc (.cells #[.int .i64 m.gen,.int .i64 m.cut,.int .i64 m.fence,.slice p.AE m.E.length p.cE,.slice p.AM m.M.length p.cM,.slice p.AO m.O.length p.cO] 53)) g m p ver):=setR_only ((Only.refl g w).alloc _) m p ver
 have HX:=Jh (setR_far hx hne m p ver)
 have HC:=Jh (h.put ho (s':={ s with read:=m,ver:=ver }) (setR_blk hk m p ver) rfl (hm.only ho h.blk (by decide) (by decide) (by decide)) (h.next_ ho))
 have HSh:=Jh (Sh.only_ hsh ho (by have:=h.low;omega))
 have HO:=Jh ho
 have x0:=hx.cell 0
 have x1:=hx.cell 1
 have x2:=hx.cell 2
 have x3:=hx.cell 3
 have x4:=hx.cell 4
 have x5:=hx.cell 5
 simp only [Ja,Jb,Jc] at x0 x1 x2 x3 x4 x5
 have f12:=hk.frozen 12
 have y12:=hk.cell 12
 have f15:=hk.frozen 15
 have y15:=hk.cell 15
 have f16:=hk.frozen 16
 have y16:=hk.cell 16
 have f17:=hk.frozen 17
 have y17:=hk.cell 17
 have f18:=hk.frozen 18
 have y18:=hk.cell 18
 have f19:=hk.frozen 19
 have y19:=hk.cell 19
 have f20:=hk.frozen 20
 have y20:=hk.cell 20
 simp only [Ja,Jb,Jc] at y12 y15 y16 y17 y18 y19 y20
 have HNe:=Jh hne
 clear hk hx hne ho h hm hsh
 go_enter Tryz.func32,Tryz.ntmps32
 go_upto_region 2 with fail
 change Code.wp _ _ _ _ (setR (w.alloc (.cells #[.int .i64 m.gen,.int .i64 m.cut,.int .i64 m.fence,.slice p.AE m.E.length p.cE,.slice p.AM m.M.length p.cM,.slice p.AO m.O.length p.cO] 53)) g m p ver)
 obtain ⟨gm,hgm2⟩:∃ gm,gm=w.heap.size:=⟨_,rfl⟩
 rw [← hgm2] at HX HNe ⊢
 have HGm:=Jh hgm2
 clear hgm2 x0 x1 x2 x3 x4 x5 f12 f15 f16 f17 f18 f19 f20 y12 y15 y16 y17 y18 y19 y20
 generalize setR (w.alloc (.cells #[.int .i64 m.gen,.int .i64 m.cut,.int .i64 m.fence,.slice p.AE m.E.length p.cE,.slice p.AM m.M.length p.cM,.slice p.AO m.O.length p.cO] 53)) g m p ver=w2 at *
 have Hc:Hid (∀ W,Below w2.heap.size w2 W→(W.cell? ⟨gm,0,none⟩=some (.int .i64 m.gen)∧W.cell? ⟨gm,1,none⟩=some (.int .i64 m.cut)∧W.cell? ⟨gm,2,none⟩=some (.int .i64 m.fence)∧W.cell? ⟨gm,3,none⟩=some (.slice p.AE m.E.length p.cE)∧W.cell? ⟨gm,4,none⟩=some (.slice p.AM m.M.length p.cM)∧W.cell? ⟨gm,5,none⟩=some (.slice p.AO m.O.length p.cO))∧W.cell? ⟨g,0,none⟩=some (.slice q.AA s.d.add.length q.cA)∧W.cell? ⟨g,1,none⟩=some (.slice q.AD s.d.drop.length q.cD)∧W.cell? ⟨g,2,none⟩=some (.slice q.AM s.d.marks.length q.cM)∧W.cell? ⟨g,3,none⟩=some (.int .i64 s.d.cut)∧W.cell? ⟨g,4,none⟩=some (.int .i64 s.d.fence)∧W.cell? ⟨g,5,none⟩=some (.int .i64 s.d.by_.agent)∧W.cell? ⟨g,6,none⟩=some (.int .i64 s.d.by_.life)∧W.cell? ⟨g,7,none⟩=some (.int .i64 s.d.by_.count)):=Jh fun W hW=>by
  have h1:=HX.out.below hW HX.out.lt
  have h2:=HC.out.blk.below hW HC.out.blk.lt
  exact ⟨⟨h1.cell 0,h1.cell 1,h1.cell 2,h1.cell 3,h1.cell 4,h1.cell 5⟩,h2.cell 0,h2.cell 1,h2.cell 2,h2.cell 3,h2.cell 4,h2.cell 5,h2.cell 6,h2.cell 7⟩
 have HMn:Hid (∀ W,Below w2.heap.size w2 W→Man W W.heap.size m p):=Jh fun W hW=>Mow.good ((HC.out.below hW).rd) hgm
 have HDd:=Jh fun W (hW:Below w2.heap.size w2 W)=>did_of W (HMn.out W hW) (Nat.le_refl _) s.d.by_
 have HW0:Hid (Below w2.heap.size w2 w2.drew):=Jh (below_drewN_ (Below.refl _ _) 1)
 refine wp_region_C (fun _=>false) (fun w'=>(w'.cell? ⟨gm,0,none⟩=some (.int .i64 m.gen)∧w'.cell? ⟨gm,1,none⟩=some (.int .i64 m.cut)∧w'.cell? ⟨gm,2,none⟩=some (.int .i64 m.fence)∧w'.cell? ⟨gm,3,none⟩=some (.slice p.AE m.E.length p.cE)∧w'.cell? ⟨gm,4,none⟩=some (.slice p.AM m.M.length p.cM)∧w'.cell? ⟨gm,5,none⟩=some (.slice p.AO m.O.length p.cO))∧w'.cell? ⟨g,0,none⟩=some (.slice q.AA s.d.add.length q.cA)∧w'.cell? ⟨g,1,none⟩=some (.slice q.AD s.d.drop.length q.cD)∧w'.cell? ⟨g,2,none⟩=some (.slice q.AM s.d.marks.length q.cM)∧w'.cell? ⟨g,3,none⟩=some (.int .i64 s.d.cut)∧w'.cell? ⟨g,4,none⟩=some (.int .i64 s.d.fence)∧w'.cell? ⟨g,5,none⟩=some (.int .i64 s.d.by_.agent)∧w'.cell? ⟨g,6,none⟩=some (.int .i64 s.d.by_.life)∧w'.cell? ⟨g,7,none⟩=some (.int .i64 s.d.by_.count)) (by kernel_rfl) (Hc.out _ HW0.out) (fun hHeld=>?_)
 generalize w2.drew=u0 at *
 apply tkC 0
 apply tkC 1
 apply tkC 2
 apply tkC 3
 apply tkC 4
 apply tkC 5
 refine wpAnyC_one (i:=6) (by kernel_rfl) rfl (fun K hK=>?_);go_simp
 refine (HDd.out u0 HW0.out).mono ?_
 rintro en u1 ⟨rfl,hb1⟩
 have HB1:=Jh (HW0.out.trans (hb1.mono HW0.out.size))
 have hS1:=Hc.out _ HB1.out
 refine hK.out _ _ (fun _=>hS1) ?_
 clear hK K hHeld hb1
 (try simp only [Act.put,Jk,Jg,Ji,Jd,Je,Jf])
 refine wpAnyC_done (by kernel_rfl) ?_ _
 have HC1:=Jh (HC.out.below HB1.out)
 have HO1:Hid (Only g w u1):=Jh (HO.out.trans (Only.of_below HB1.out))
 have HSh1:Hid (Sh u1):=Jh (HSh.out.below HB1.out HSh.out.lt)
 clear HDd HC HO HSh HW0
 cases hdd:m.O.any (didB s.d.by_)
 ·have hnd:¬ m.O.any (didB s.d.by_)=true:=by rw [hdd];simp
  have HNd:=Jh hnd
  clear hnd hdd hS1
  have HX1:=Jh (HX.out.below HB1.out HX.out.lt)
  clear HX
  go_upto_region 4 with fail
  go_cut [6,7] (fun v6 v7 wx=>∃ W9:World,W9=wx∧∃ (ga:Nat) (pz:Pl),v6=.pointer (some ⟨ga,0,none⟩)∧v7=.int .i64 (appE m s.d)∧Hid (Blk W9 ga 53 #[.int .i64 (appM m s.d).gen,.int .i64 (appM m s.d).cut,.int .i64 (appM m s.d).fence,.slice pz.AE (appM m s.d).E.length pz.cE,.slice pz.AM (appM m s.d).M.length pz.cM,.slice pz.AO (appM m s.d).O.length pz.cO])∧Hid (CmAt W9 base g { s with read:=m,ver:=ver } q p pn)∧Hid (Mow W9 base (appM m s.d) pz)∧Hid (Only g w W9))
  case first =>
   have Hc1:Hid (∀ W,Below u1.heap.size u1 W→(W.cell? ⟨gm,0,none⟩=some (.int .i64 m.gen)∧W.cell? ⟨gm,1,none⟩=some (.int .i64 m.cut)∧W.cell? ⟨gm,2,none⟩=some (.int .i64 m.fence)∧W.cell? ⟨gm,3,none⟩=some (.slice p.AE m.E.length p.cE)∧W.cell? ⟨gm,4,none⟩=some (.slice p.AM m.M.length p.cM)∧W.cell? ⟨gm,5,none⟩=some (.slice p.AO m.O.length p.cO))∧W.cell? ⟨g,0,none⟩=some (.slice q.AA s.d.add.length q.cA)∧W.cell? ⟨g,1,none⟩=some (.slice q.AD s.d.drop.length q.cD)∧W.cell? ⟨g,2,none⟩=some (.slice q.AM s.d.marks.length q.cM)∧W.cell? ⟨g,3,none⟩=some (.int .i64 s.d.cut)∧W.cell? ⟨g,4,none⟩=some (.int .i64 s.d.fence)∧W.cell? ⟨g,5,none⟩=some (.int .i64 s.d.by_.agent)∧W.cell? ⟨g,6,none⟩=some (.int .i64 s.d.by_.life)∧W.cell? ⟨g,7,none⟩=some (.int .i64 s.d.by_.count)):=Jh fun W hW=>by
    have h1:=HX1.out.below hW HX1.out.lt
    have h2:=HC1.out.blk.below hW HC1.out.blk.lt
    exact ⟨⟨h1.cell 0,h1.cell 1,h1.cell 2,h1.cell 3,h1.cell 4,h1.cell 5⟩,h2.cell 0,h2.cell 1,h2.cell 2,h2.cell 3,h2.cell 4,h2.cell 5,h2.cell 6,h2.cell 7⟩
   have HAp:Hid (∀ W,Below u1.heap.size u1 W→Calls Tryz.prog 64 #[mdV m p,edV s.d q] W (RetAp W (appM m s.d) (appE m s.d))):=Jh fun W hW=>hap W (Mow.good ((HC1.out.below hW).rd) hgm) (Edo.edi ((HC1.out.below hW).ed) hge) (Nat.le_refl _) hgm.short hge.short (HSh1.out.below hW HSh1.out.lt)
   have HW1:Hid (Below u1.heap.size u1 u1.drew):=Jh (below_drewN_ (Below.refl _ _) 1)
   refine wp_region_C (fun _=>false) (fun w'=>(w'.cell? ⟨gm,0,none⟩=some (.int .i64 m.gen)∧w'.cell? ⟨gm,1,none⟩=some (.int .i64 m.cut)∧w'.cell? ⟨gm,2,none⟩=some (.int .i64 m.fence)∧w'.cell? ⟨gm,3,none⟩=some (.slice p.AE m.E.length p.cE)∧w'.cell? ⟨gm,4,none⟩=some (.slice p.AM m.M.length p.cM)∧w'.cell? ⟨gm,5,none⟩=some (.slice p.AO m.O.length p.cO))∧w'.cell? ⟨g,0,none⟩=some (.slice q.AA s.d.add.length q.cA)∧w'.cell? ⟨g,1,none⟩=some (.slice q.AD s.d.drop.length q.cD)∧w'.cell? ⟨g,2,none⟩=some (.slice q.AM s.d.marks.length q.cM)∧w'.cell? ⟨g,3,none⟩=some (.int .i64 s.d.cut)∧w'.cell? ⟨g,4,none⟩=some (.int .i64 s.d.fence)∧w'.cell? ⟨g,5,none⟩=some (.int .i64 s.d.by_.agent)∧w'.cell? ⟨g,6,none⟩=some (.int .i64 s.d.by_.life)∧w'.cell? ⟨g,7,none⟩=some (.int .i64 s.d.by_.count)) (by kernel_rfl) (Hc1.out _ HW1.out) (fun hHeld=>?_)
   generalize u1.drew=v0 at *
   apply tkC 0
   apply tkC 1
   apply tkC 2
   apply tkC 3
   apply tkC 4
   refine wpAnyC_two (i:=5) (j:=9) (by kernel_rfl) rfl rfl (fun K hK=>?_) (fun K hK=>?_)
   ·go_simp
    refine (HAp.out v0 HW1.out).mono ?_
    rintro en v1 ⟨pz,rfl,hmo,hb2⟩
    have HV1:=Jh (HW1.out.trans (hb2.mono HW1.out.size))
    have HMo:=Jh (Mow.mono hmo (b2:=base) (by have:=HC1.out.blk.lt;have:=HC1.out.low;have:=HW1.out.size;omega))
    have hSv:=Hc1.out _ HV1.out
    refine hK.out _ _ (fun _=>hSv) ?_
    clear hK K hHeld hmo hb2
    (try simp only [Act.put,Jk,Jg,Ji,Jd,Je,Jf])
    apply tkC 6
    apply tkC 7
    apply tkC 8
    refine wpAnyC_one (i:=9) (by kernel_rfl) rfl (fun K hK=>?_);go_simp
    have HV2:=Jh (HV1.out.alloc HV1.out.size (.cells #[.int .i64 0,.int .i64 0,.int .i64 0,.slice none 0 0,.slice none 0 0,.slice none 0 0] 53))
    have hSv2:=Hc1.out _ HV2.out
    refine hK.out _ _ (fun _=>hSv2) ?_
    clear hK K hSv
    (try simp only [Act.put,Jk,Jg,Ji,Jd,Je,Jf])
    have hBz:=Blk.new v1 53 #[.int .i64 0,.int .i64 0,.int .i64 0,.slice none 0 0,.slice none 0 0,.slice none 0 0]
    have HMu:=Jh (HMo.out.below ((Below.refl _ _).alloc (Nat.le_refl _) (.cells #[.int .i64 0,.int .i64 0,.int .i64 0,.slice none 0 0,.slice none 0 0,.slice none 0 0] 53)))
    obtain ⟨ga,hga⟩:∃ ga,ga=v1.heap.size:=⟨_,rfl⟩
    have hgal:u1.heap.size≤ga:=by rw [hga];exact HV1.out.size
    rw [← hga] at hBz ⊢
    have HBz:=Jh hBz
    clear hBz hga
    generalize v1.alloc (.cells #[.int .i64 0,.int .i64 0,.int .i64 0,.slice none 0 0,.slice none 0 0,.slice none 0 0] 53)=u at *
    have HCu:=Jh (HC1.out.below HV2.out)
    have HOu:Hid (Only g w u):=Jh (HO1.out.trans (Only.of_below HV2.out))
    have HXu:=Jh (HX1.out.below HV2.out HX1.out.lt)
    have HGa:Hid (w.heap.size≤ga):=Jh (Nat.le_trans HO1.out.size hgal)
    have HGa2:Hid (gm<ga):=Jh (Nat.lt_of_lt_of_le HX1.out.lt hgal)
    clear hgal
    have x0:=HBz.out.cell 0
    have x1:=HBz.out.cell 1
    have x2:=HBz.out.cell 2
    have x3:=HBz.out.cell 3
    have x4:=HBz.out.cell 4
    have x5:=HBz.out.cell 5
    have y0:=HBz.out.frozen 0
    have y1:=HBz.out.frozen 1
    have y2:=HBz.out.frozen 2
    have y3:=HBz.out.frozen 3
    have y4:=HBz.out.frozen 4
    have y5:=HBz.out.frozen 5
    simp only [Ja,Jb,Jc] at x0 x1 x2 x3 x4 x5
    have hso:Only ga u (set6 u ga (.int .i64 (appM m s.d).gen) (.int .i64 (appM m s.d).cut) (.int .i64 (appM m s.d).fence) (.slice pz.AE (appM m s.d).E.length pz.cE) (.slice pz.AM (appM m s.d).M.length pz.cM) (.slice pz.AO (appM m s.d).O.length pz.cO)):=set6_only (Only.refl ga u) _ _ _ _ _ _
    have HB9:=Jh (set6_blk HBz.out (.int .i64 (appM m s.d).gen) (.int .i64 (appM m s.d).cut) (.int .i64 (appM m s.d).fence) (.slice pz.AE (appM m s.d).E.length pz.cE) (.slice pz.AM (appM m s.d).M.length pz.cM) (.slice pz.AO (appM m s.d).O.length pz.cO))
    have HC9:=Jh (HCu.out.other hso HBz.out (by decide) (by decide) (by decide) (by decide) (by decide))
    have HM9:=Jh (Mow.only HMu.out hso HBz.out (by decide) (by decide) (by decide))
    have HO9:Hid (Only g w (set6 u ga (.int .i64 (appM m s.d).gen) (.int .i64 (appM m s.d).cut) (.int .i64 (appM m s.d).fence) (.slice pz.AE (appM m s.d).E.length pz.cE) (.slice pz.AM (appM m s.d).M.length pz.cM) (.slice pz.AO (appM m s.d).O.length pz.cO))):=Jh (Sp_set6 HOu.out HGa.out _ _ _ _ _ _)
    have hgmx:Blk (set6 u ga (.int .i64 (appM m s.d).gen) (.int .i64 (appM m s.d).cut) (.int .i64 (appM m s.d).fence) (.slice pz.AE (appM m s.d).E.length pz.cE) (.slice pz.AM (appM m s.d).M.length pz.cM) (.slice pz.AO (appM m s.d).O.length pz.cO)) gm 53 #[.int .i64 m.gen,.int .i64 m.cut,.int .i64 m.fence,.slice p.AE m.E.length p.cE,.slice p.AM m.M.length p.cM,.slice p.AO m.O.length p.cO]:=hso.blk HXu.out (by have:=HGa2.out;omega)
    have hS9:((set6 u ga (.int .i64 (appM m s.d).gen) (.int .i64 (appM m s.d).cut) (.int .i64 (appM m s.d).fence) (.slice pz.AE (appM m s.d).E.length pz.cE) (.slice pz.AM (appM m s.d).M.length pz.cM) (.slice pz.AO (appM m s.d).O.length pz.cO)).cell? ⟨gm,0,none⟩=some (.int .i64 m.gen)∧(set6 u ga (.int .i64 (appM m s.d).gen) (.int .i64 (appM m s.d).cut) (.int .i64 (appM m s.d).fence) (.slice pz.AE (appM m s.d).E.length pz.cE) (.slice pz.AM (appM m s.d).M.length pz.cM) (.slice pz.AO (appM m s.d).O.length pz.cO)).cell? ⟨gm,1,none⟩=some (.int .i64 m.cut)∧(set6 u ga (.int .i64 (appM m s.d).gen) (.int .i64 (appM m s.d).cut) (.int .i64 (appM m s.d).fence) (.slice pz.AE (appM m s.d).E.length pz.cE) (.slice pz.AM (appM m s.d).M.length pz.cM) (.slice pz.AO (appM m s.d).O.length pz.cO)).cell? ⟨gm,2,none⟩=some (.int .i64 m.fence)∧(set6 u ga (.int .i64 (appM m s.d).gen) (.int .i64 (appM m s.d).cut) (.int .i64 (appM m s.d).fence) (.slice pz.AE (appM m s.d).E.length pz.cE) (.slice pz.AM (appM m s.d).M.length pz.cM) (.slice pz.AO (appM m s.d).O.length pz.cO)).cell? ⟨gm,3,none⟩=some (.slice p.AE m.E.length p.cE)∧(set6 u ga (.int .i64 (appM m s.d).gen) (.int .i64 (appM m s.d).cut) (.int .i64 (appM m s.d).fence) (.slice pz.AE (appM m s.d).E.length pz.cE) (.slice pz.AM (appM m s.d).M.length pz.cM) (.slice pz.AO (appM m s.d).O.length pz.cO)).cell? ⟨gm,4,none⟩=some (.slice p.AM m.M.length p.cM)∧(set6 u ga (.int .i64 (appM m s.d).gen) (.int .i64 (appM m s.d).cut) (.int .i64 (appM m s.d).fence) (.slice pz.AE (appM m s.d).E.length pz.cE) (.slice pz.AM (appM m s.d).M.length pz.cM) (.slice pz.AO (appM m s.d).O.length pz.cO)).cell? ⟨gm,5,none⟩=some (.slice p.AO m.O.length p.cO))∧(set6 u ga (.int .i64 (appM m s.d).gen) (.int .i64 (appM m s.d).cut) (.int .i64 (appM m s.d).fence) (.slice pz.AE (appM m s.d).E.length pz.cE) (.slice pz.AM (appM m s.d).M.length pz.cM) (.slice pz.AO (appM m s.d).O.length pz.cO)).cell? ⟨g,0,none⟩=some (.slice q.AA s.d.add.length q.cA)∧(set6 u ga (.int .i64 (appM m s.d).gen) (.int .i64 (appM m s.d).cut) (.int .i64 (appM m s.d).fence) (.slice pz.AE (appM m s.d).E.length pz.cE) (.slice pz.AM (appM m s.d).M.length pz.cM) (.slice pz.AO (appM m s.d).O.length pz.cO)).cell? ⟨g,1,none⟩=some (.slice q.AD s.d.drop.length q.cD)∧(set6 u ga (.int .i64 (appM m s.d).gen) (.int .i64 (appM m s.d).cut) (.int .i64 (appM m s.d).fence) (.slice pz.AE (appM m s.d).E.length pz.cE) (.slice pz.AM (appM m s.d).M.length pz.cM) (.slice pz.AO (appM m s.d).O.length pz.cO)).cell? ⟨g,2,none⟩=some (.slice q.AM s.d.marks.length q.cM)∧(set6 u ga (.int .i64 (appM m s.d).gen) (.int .i64 (appM m s.d).cut) (.int .i64 (appM m s.d).fence) (.slice pz.AE (appM m s.d).E.length pz.cE) (.slice pz.AM (appM m s.d).M.length pz.cM) (.slice pz.AO (appM m s.d).O.length pz.cO)).cell? ⟨g,3,none⟩=some (.int .i64 s.d.cut)∧(set6 u ga (.int .i64 (appM m s.d).gen) (.int .i64 (appM m s.d).cut) (.int .i64 (appM m s.d).fence) (.slice pz.AE (appM m s.d).E.length pz.cE) (.slice pz.AM (appM m s.d).M.length pz.cM) (.slice pz.AO (appM m s.d).O.length pz.cO)).cell? ⟨g,4,none⟩=some (.int .i64 s.d.fence)∧(set6 u ga (.int .i64 (appM m s.d).gen) (.int .i64 (appM m s.d).cut) (.int .i64 (appM m s.d).fence) (.slice pz.AE (appM m s.d).E.length pz.cE) (.slice pz.AM (appM m s.d).M.length pz.cM) (.slice pz.AO (appM m s.d).O.length pz.cO)).cell? ⟨g,5,none⟩=some (.int .i64 s.d.by_.agent)∧(set6 u ga (.int .i64 (appM m s.d).gen) (.int .i64 (appM m s.d).cut) (.int .i64 (appM m s.d).fence) (.slice pz.AE (appM m s.d).E.length pz.cE) (.slice pz.AM (appM m s.d).M.length pz.cM) (.slice pz.AO (appM m s.d).O.length pz.cO)).cell? ⟨g,6,none⟩=some (.int .i64 s.d.by_.life)∧(set6 u ga (.int .i64 (appM m s.d).gen) (.int .i64 (appM m s.d).cut) (.int .i64 (appM m s.d).fence) (.slice pz.AE (appM m s.d).E.length pz.cE) (.slice pz.AM (appM m s.d).M.length pz.cM) (.slice pz.AO (appM m s.d).O.length pz.cO)).cell? ⟨g,7,none⟩=some (.int .i64 s.d.by_.count):=⟨⟨hgmx.cell 0,hgmx.cell 1,hgmx.cell 2,hgmx.cell 3,hgmx.cell 4,hgmx.cell 5⟩,HC9.out.blk.cell 0,HC9.out.blk.cell 1,HC9.out.blk.cell 2,HC9.out.blk.cell 3,HC9.out.blk.cell 4,HC9.out.blk.cell 5,HC9.out.blk.cell 6,HC9.out.blk.cell 7⟩
    unfold set6 at hS9
    clear hso hgmx
    refine wpAnyC_one (i:=10) (by kernel_rfl) rfl (fun K hK=>?_);go_simp
    refine hK.out _ _ (fun _=>hS9) ?_
    clear hK K x0 x1 x2 x3 x4 x5 y0 y1 y2 y3 y4 y5
    (try simp only [Act.put,Jk,Jg,Ji,Jd,Je,Jf])
    refine wpAnyC_one (i:=11) (by kernel_rfl) rfl (fun K hK=>?_);go_simp
    refine hK.out _ _ (fun _=>hS9) (wpAnyC_done (by kernel_rfl) ?_ _)
    clear hK K hS9
    go_wp2
    go_meet
    case rel=>exact ⟨_,rfl,ga,pz,rfl,rfl,HB9,HC9,HM9,HO9⟩
   ·go_simp
    have HV1:=Jh (HW1.out.alloc HW1.out.size (.cells #[.int .i64 0,.int .i64 0,.int .i64 0,.slice none 0 0,.slice none 0 0,.slice none 0 0] 53))
    have hSv:=Hc1.out _ HV1.out
    refine hK.out _ _ (fun _=>hSv) ?_
    clear hK K hHeld
    (try simp only [Act.put,Jk,Jg,Ji,Jd,Je,Jf])
    have hBz0:=Blk.new v0 53 #[.int .i64 0,.int .i64 0,.int .i64 0,.slice none 0 0,.slice none 0 0,.slice none 0 0]
    obtain ⟨ga,hga⟩:∃ ga,ga=v0.heap.size:=⟨_,rfl⟩
    have hgal:u1.heap.size≤ga:=by rw [hga];exact HW1.out.size
    rw [← hga] at hBz0 ⊢
    have HBz0:=Jh hBz0
    clear hBz0 hga
    generalize v0.alloc (.cells #[.int .i64 0,.int .i64 0,.int .i64 0,.slice none 0 0,.slice none 0 0,.slice none 0 0] 53)=v1 at *
    refine wpAnyC_one (i:=5) (by kernel_rfl) rfl (fun K hK=>?_);go_simp
    refine (HAp.out v1 HV1.out).mono ?_
    rintro en u ⟨pz,rfl,hmo,hb2⟩
    have HV2:=Jh (HV1.out.trans (hb2.mono HV1.out.size))
    have HBz:=Jh (HBz0.out.below hb2 HBz0.out.lt)
    have HMu:=Jh (Mow.mono hmo (b2:=base) (by have:=HC1.out.blk.lt;have:=HC1.out.low;have:=HV1.out.size;omega))
    have hSv2:=Hc1.out _ HV2.out
    refine hK.out _ _ (fun _=>hSv2) ?_
    clear hK K hSv hmo hb2
    (try simp only [Act.put,Jk,Jg,Ji,Jd,Je,Jf])
    apply tkC 6
    apply tkC 7
    apply tkC 8
    have HCu:=Jh (HC1.out.below HV2.out)
    have HOu:Hid (Only g w u):=Jh (HO1.out.trans (Only.of_below HV2.out))
    have HXu:=Jh (HX1.out.below HV2.out HX1.out.lt)
    have HGa:Hid (w.heap.size≤ga):=Jh (Nat.le_trans HO1.out.size hgal)
    have HGa2:Hid (gm<ga):=Jh (Nat.lt_of_lt_of_le HX1.out.lt hgal)
    clear hgal
    have x0:=HBz.out.cell 0
    have x1:=HBz.out.cell 1
    have x2:=HBz.out.cell 2
    have x3:=HBz.out.cell 3
    have x4:=HBz.out.cell 4
    have x5:=HBz.out.cell 5
    have y0:=HBz.out.frozen 0
    have y1:=HBz.out.frozen 1
    have y2:=HBz.out.frozen 2
    have y3:=HBz.out.frozen 3
    have y4:=HBz.out.frozen 4
    have y5:=HBz.out.frozen 5
    simp only [Ja,Jb,Jc] at x0 x1 x2 x3 x4 x5
    have hso:Only ga u (set6 u ga (.int .i64 (appM m s.d).gen) (.int .i64 (appM m s.d).cut) (.int .i64 (appM m s.d).fence) (.slice pz.AE (appM m s.d).E.length pz.cE) (.slice pz.AM (appM m s.d).M.length pz.cM) (.slice pz.AO (appM m s.d).O.length pz.cO)):=set6_only (Only.refl ga u) _ _ _ _ _ _
    have HB9:=Jh (set6_blk HBz.out (.int .i64 (appM m s.d).gen) (.int .i64 (appM m s.d).cut) (.int .i64 (appM m s.d).fence) (.slice pz.AE (appM m s.d).E.length pz.cE) (.slice pz.AM (appM m s.d).M.length pz.cM) (.slice pz.AO (appM m s.d).O.length pz.cO))
    have HC9:=Jh (HCu.out.other hso HBz.out (by decide) (by decide) (by decide) (by decide) (by decide))
    have HM9:=Jh (Mow.only HMu.out hso HBz.out (by decide) (by decide) (by decide))
    have HO9:Hid (Only g w (set6 u ga (.int .i64 (appM m s.d).gen) (.int .i64 (appM m s.d).cut) (.int .i64 (appM m s.d).fence) (.slice pz.AE (appM m s.d).E.length pz.cE) (.slice pz.AM (appM m s.d).M.length pz.cM) (.slice pz.AO (appM m s.d).O.length pz.cO))):=Jh (Sp_set6 HOu.out HGa.out _ _ _ _ _ _)
    have hgmx:Blk (set6 u ga (.int .i64 (appM m s.d).gen) (.int .i64 (appM m s.d).cut) (.int .i64 (appM m s.d).fence) (.slice pz.AE (appM m s.d).E.length pz.cE) (.slice pz.AM (appM m s.d).M.length pz.cM) (.slice pz.AO (appM m s.d).O.length pz.cO)) gm 53 #[.int .i64 m.gen,.int .i64 m.cut,.int .i64 m.fence,.slice p.AE m.E.length p.cE,.slice p.AM m.M.length p.cM,.slice p.AO m.O.length p.cO]:=hso.blk HXu.out (by have:=HGa2.out;omega)
    have hS9:((set6 u ga (.int .i64 (appM m s.d).gen) (.int .i64 (appM m s.d).cut) (.int .i64 (appM m s.d).fence) (.slice pz.AE (appM m s.d).E.length pz.cE) (.slice pz.AM (appM m s.d).M.length pz.cM) (.slice pz.AO (appM m s.d).O.length pz.cO)).cell? ⟨gm,0,none⟩=some (.int .i64 m.gen)∧(set6 u ga (.int .i64 (appM m s.d).gen) (.int .i64 (appM m s.d).cut) (.int .i64 (appM m s.d).fence) (.slice pz.AE (appM m s.d).E.length pz.cE) (.slice pz.AM (appM m s.d).M.length pz.cM) (.slice pz.AO (appM m s.d).O.length pz.cO)).cell? ⟨gm,1,none⟩=some (.int .i64 m.cut)∧(set6 u ga (.int .i64 (appM m s.d).gen) (.int .i64 (appM m s.d).cut) (.int .i64 (appM m s.d).fence) (.slice pz.AE (appM m s.d).E.length pz.cE) (.slice pz.AM (appM m s.d).M.length pz.cM) (.slice pz.AO (appM m s.d).O.length pz.cO)).cell? ⟨gm,2,none⟩=some (.int .i64 m.fence)∧(set6 u ga (.int .i64 (appM m s.d).gen) (.int .i64 (appM m s.d).cut) (.int .i64 (appM m s.d).fence) (.slice pz.AE (appM m s.d).E.length pz.cE) (.slice pz.AM (appM m s.d).M.length pz.cM) (.slice pz.AO (appM m s.d).O.length pz.cO)).cell? ⟨gm,3,none⟩=some (.slice p.AE m.E.length p.cE)∧(set6 u ga (.int .i64 (appM m s.d).gen) (.int .i64 (appM m s.d).cut) (.int .i64 (appM m s.d).fence) (.slice pz.AE (appM m s.d).E.length pz.cE) (.slice pz.AM (appM m s.d).M.length pz.cM) (.slice pz.AO (appM m s.d).O.length pz.cO)).cell? ⟨gm,4,none⟩=some (.slice p.AM m.M.length p.cM)∧(set6 u ga (.int .i64 (appM m s.d).gen) (.int .i64 (appM m s.d).cut) (.int .i64 (appM m s.d).fence) (.slice pz.AE (appM m s.d).E.length pz.cE) (.slice pz.AM (appM m s.d).M.length pz.cM) (.slice pz.AO (appM m s.d).O.length pz.cO)).cell? ⟨gm,5,none⟩=some (.slice p.AO m.O.length p.cO))∧(set6 u ga (.int .i64 (appM m s.d).gen) (.int .i64 (appM m s.d).cut) (.int .i64 (appM m s.d).fence) (.slice pz.AE (appM m s.d).E.length pz.cE) (.slice pz.AM (appM m s.d).M.length pz.cM) (.slice pz.AO (appM m s.d).O.length pz.cO)).cell? ⟨g,0,none⟩=some (.slice q.AA s.d.add.length q.cA)∧(set6 u ga (.int .i64 (appM m s.d).gen) (.int .i64 (appM m s.d).cut) (.int .i64 (appM m s.d).fence) (.slice pz.AE (appM m s.d).E.length pz.cE) (.slice pz.AM (appM m s.d).M.length pz.cM) (.slice pz.AO (appM m s.d).O.length pz.cO)).cell? ⟨g,1,none⟩=some (.slice q.AD s.d.drop.length q.cD)∧(set6 u ga (.int .i64 (appM m s.d).gen) (.int .i64 (appM m s.d).cut) (.int .i64 (appM m s.d).fence) (.slice pz.AE (appM m s.d).E.length pz.cE) (.slice pz.AM (appM m s.d).M.length pz.cM) (.slice pz.AO (appM m s.d).O.length pz.cO)).cell? ⟨g,2,none⟩=some (.slice q.AM s.d.marks.length q.cM)∧(set6 u ga (.int .i64 (appM m s.d).gen) (.int .i64 (appM m s.d).cut) (.int .i64 (appM m s.d).fence) (.slice pz.AE (appM m s.d).E.length pz.cE) (.slice pz.AM (appM m s.d).M.length pz.cM) (.slice pz.AO (appM m s.d).O.length pz.cO)).cell? ⟨g,3,none⟩=some (.int .i64 s.d.cut)∧(set6 u ga (.int .i64 (appM m s.d).gen) (.int .i64 (appM m s.d).cut) (.int .i64 (appM m s.d).fence) (.slice pz.AE (appM m s.d).E.length pz.cE) (.slice pz.AM (appM m s.d).M.length pz.cM) (.slice pz.AO (appM m s.d).O.length pz.cO)).cell? ⟨g,4,none⟩=some (.int .i64 s.d.fence)∧(set6 u ga (.int .i64 (appM m s.d).gen) (.int .i64 (appM m s.d).cut) (.int .i64 (appM m s.d).fence) (.slice pz.AE (appM m s.d).E.length pz.cE) (.slice pz.AM (appM m s.d).M.length pz.cM) (.slice pz.AO (appM m s.d).O.length pz.cO)).cell? ⟨g,5,none⟩=some (.int .i64 s.d.by_.agent)∧(set6 u ga (.int .i64 (appM m s.d).gen) (.int .i64 (appM m s.d).cut) (.int .i64 (appM m s.d).fence) (.slice pz.AE (appM m s.d).E.length pz.cE) (.slice pz.AM (appM m s.d).M.length pz.cM) (.slice pz.AO (appM m s.d).O.length pz.cO)).cell? ⟨g,6,none⟩=some (.int .i64 s.d.by_.life)∧(set6 u ga (.int .i64 (appM m s.d).gen) (.int .i64 (appM m s.d).cut) (.int .i64 (appM m s.d).fence) (.slice pz.AE (appM m s.d).E.length pz.cE) (.slice pz.AM (appM m s.d).M.length pz.cM) (.slice pz.AO (appM m s.d).O.length pz.cO)).cell? ⟨g,7,none⟩=some (.int .i64 s.d.by_.count):=⟨⟨hgmx.cell 0,hgmx.cell 1,hgmx.cell 2,hgmx.cell 3,hgmx.cell 4,hgmx.cell 5⟩,HC9.out.blk.cell 0,HC9.out.blk.cell 1,HC9.out.blk.cell 2,HC9.out.blk.cell 3,HC9.out.blk.cell 4,HC9.out.blk.cell 5,HC9.out.blk.cell 6,HC9.out.blk.cell 7⟩
    unfold set6 at hS9
    clear hso hgmx
    refine wpAnyC_one (i:=10) (by kernel_rfl) rfl (fun K hK=>?_);go_simp
    refine hK.out _ _ (fun _=>hS9) ?_
    clear hK K x0 x1 x2 x3 x4 x5 y0 y1 y2 y3 y4 y5
    (try simp only [Act.put,Jk,Jg,Ji,Jd,Je,Jf])
    refine wpAnyC_one (i:=11) (by kernel_rfl) rfl (fun K hK=>?_);go_simp
    refine hK.out _ _ (fun _=>hS9) (wpAnyC_done (by kernel_rfl) ?_ _)
    clear hK K hS9
    go_wp2
    go_meet
    case rel=>exact ⟨_,rfl,ga,pz,rfl,rfl,HB9,HC9,HM9,HO9⟩
  case rest =>
   obtain ⟨w5,rfl,ga,pz,rfl,rfl,HBa,HC5,HM5,HO5⟩:=hcut
   clear HC1 HO1 HSh1 HB1 HX1
   by_cases he:appE m s.d=0
   ·have e0:(appE m s.d != 0)=false:=nef he
    have hsaw:sawS s m ver={ s with read:=m,ver:=ver,next:=appM m s.d,writes:=true }:=by unfold sawS;rw [if_neg HNd.out,if_neg (by omega)]
    have HSaw:=Jh hsaw
    have x0:=HBa.out.cell 0
    have x1:=HBa.out.cell 1
    have x2:=HBa.out.cell 2
    have x3:=HBa.out.cell 3
    have x4:=HBa.out.cell 4
    have x5:=HBa.out.cell 5
    simp only [Ja,Jb,Jc] at x0 x1 x2 x3 x4 x5
    have f14:=HC5.out.blk.frozen 14
    have y14:=HC5.out.blk.cell 14
    have f21:=HC5.out.blk.frozen 21
    have y21:=HC5.out.blk.cell 21
    have f22:=HC5.out.blk.frozen 22
    have y22:=HC5.out.blk.cell 22
    have f23:=HC5.out.blk.frozen 23
    have y23:=HC5.out.blk.cell 23
    have f24:=HC5.out.blk.frozen 24
    have y24:=HC5.out.blk.cell 24
    have f25:=HC5.out.blk.frozen 25
    have y25:=HC5.out.blk.cell 25
    have f26:=HC5.out.blk.frozen 26
    have y26:=HC5.out.blk.cell 26
    simp only [Ja,Jb,Jc] at y14 y21 y22 y23 y24 y25 y26
    have b9:=((((((HC5.out.blk.set_ 21 (.int .i64 (appM m s.d).gen)).set_ 22 (.int .i64 (appM m s.d).cut)).set_ 23 (.int .i64 (appM m s.d).fence)).set_ 24 (.slice pz.AE (appM m s.d).E.length pz.cE)).set_ 25 (.slice pz.AM (appM m s.d).M.length pz.cM)).set_ 26 (.slice pz.AO (appM m s.d).O.length pz.cO)).set_ 14 (.bool true)
    simp only [Jd,Je,Jf] at b9
    have ho9:Only g w5 (((((((w5.setCell ⟨g,21,none⟩ (.int .i64 (appM m s.d).gen)).setCell ⟨g,22,none⟩ (.int .i64 (appM m s.d).cut)).setCell ⟨g,23,none⟩ (.int .i64 (appM m s.d).fence)).setCell ⟨g,24,none⟩ (.slice pz.AE (appM m s.d).E.length pz.cE)).setCell ⟨g,25,none⟩ (.slice pz.AM (appM m s.d).M.length pz.cM)).setCell ⟨g,26,none⟩ (.slice pz.AO (appM m s.d).O.length pz.cO)).setCell ⟨g,14,none⟩ (.bool true)):=(((((((Only.refl g w5).setCell (.inl rfl) _).setCell (.inl rfl) _).setCell (.inl rfl) _).setCell (.inl rfl) _).setCell (.inl rfl) _).setCell (.inl rfl) _).setCell (.inl rfl) _
    have HC9:=Jh (HC5.out.put ho9 (s':={ s with read:=m,ver:=ver,next:=appM m s.d,writes:=true }) (pr':=p) (pn':=pz) b9 rfl (HC5.out.read_ ho9) (Mow.only HM5.out ho9 HC5.out.blk (by decide) (by decide) (by decide)))
    have HO9:=Jh (HO5.out.trans ho9)
    clear b9 ho9 hsaw he
    go_wp2
    go_end0
    exact ⟨rfl,_,_,by rw [HSaw.out];exact HC9.out,HO9.out⟩
   ·have e0:(appE m s.d != 0)=true:=net he
    have hsaw:sawS s m ver={ s with read:=m,ver:=ver,st:=2,er:=appE m s.d }:=by unfold sawS;rw [if_neg HNd.out,if_pos he]
    have HSaw:=Jh hsaw
    have HEn:=Jh (end_calls w5 HC5.out.blk (.int .i64 s.st) (.int .i64 s.er) rfl rfl 2 (appE m s.d))
    have b6:=(HC5.out.blk.set_ 27 (.int .i64 2)).set_ 28 (.int .i64 (appE m s.d))
    simp only [Jd,Je,Jf] at b6
    have ho6:Only g w5 ((w5.setCell ⟨g,27,none⟩ (.int .i64 2)).setCell ⟨g,28,none⟩ (.int .i64 (appE m s.d))):=((Only.refl g w5).setCell (.inl rfl) _).setCell (.inl rfl) _
    have HC6:=Jh (HC5.out.put ho6 (s':={ s with read:=m,ver:=ver,st:=2,er:=appE m s.d }) b6 rfl (HC5.out.read_ ho6) (HC5.out.next_ ho6))
    have HO6:=Jh (HO5.out.trans ho6)
    clear b6 ho6 hsaw he
    go_wp2_with fail
    refine HEn.out.mono ?_
    rintro en w6 ⟨rfl,rfl⟩
    go_wp2
    go_end0
    exact ⟨rfl,_,_,by rw [HSaw.out];exact HC6.out,HO6.out⟩
 ·have hsaw:sawS s m ver={ s with read:=m,ver:=ver,st:=1,er:=0 }:=by unfold sawS;rw [if_pos hdd]
  have HSaw:=Jh hsaw
  have HEn:=Jh (end_calls u1 HC1.out.blk (.int .i64 s.st) (.int .i64 s.er) rfl rfl 1 0)
  have b6:=(HC1.out.blk.set_ 27 (.int .i64 1)).set_ 28 (.int .i64 0)
  simp only [Jd,Je,Jf] at b6
  have ho6:Only g u1 ((u1.setCell ⟨g,27,none⟩ (.int .i64 1)).setCell ⟨g,28,none⟩ (.int .i64 0)):=((Only.refl g u1).setCell (.inl rfl) _).setCell (.inl rfl) _
  have HC6:=Jh (HC1.out.put ho6 (s':={ s with read:=m,ver:=ver,st:=1,er:=0 }) b6 rfl (HC1.out.read_ ho6) (HC1.out.next_ ho6))
  have HO6:=Jh (HO1.out.trans ho6)
  clear b6 ho6 hsaw hdd hS1
  go_wp2_with fail
  refine HEn.out.mono ?_
  rintro en w6 ⟨rfl,rfl⟩
  go_wp2
  go_end0
  exact ⟨rfl,_,_,by rw [HSaw.out];exact HC6.out,HO6.out⟩
end Go.Proofs.YtibnehaibgbliaaGreat.Mf
