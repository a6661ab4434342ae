/- Laws for the row's walk. -/
import Derived.Test.YtibnehaibgbliaaGreatQ28
set_option linter.unusedVariables false
set_option linter.unusedSimpArgs false
open Go.Lib renaming hid → Jh
open List renaming getElem?_toArray → Ja, getElem?_cons_zero → Jb, getElem?_cons_succ → Jc, setIfInBounds_toArray → Jd, set_cons_zero → Je, set_cons_succ → Jf, getElem_cons_zero → Jg, getElem_cons_succ → Ji, getElem_toArray → Jk
namespace Go.Proofs.YtibnehaibgbliaaGreat.Mf
open Go.RowKit Go.Proofs.YtibnehaibgbliaaGreat
section
variable {base g:Nat} {s:Cst} {q:Pd} {pr pn:Pl}
def RetTk (K:World→Cst→Prop) (w:World) (g:Nat) (s':Cst) (v:Value) (e:Ending) (w':World):Prop:=e=.returned v∧K w' s'∧Only g w w'
noncomputable def takeT (f:Cst→Int→List UInt8→Int→Int→Cst) (s:Cst) (err:Int) (data:List UInt8) (ver now:Int):Cst:=if s.asked=true then f s err data ver now else s
theorem takeP_any (hb0:0<base) (w:World) (hm:Sh w) (h:CmAt w base g s q pr pn) (hi:Cin s) (A:Option Addr) (c:Nat) (ver:Int) (r3 r4 r5 r6:Value) (now:Int) (err:Int) (data:List UInt8) (hbt:∀ w',Only g w w'→Bytes w' w'.heap.size A data.length data) (hnc:data.length≤c) (hn:data.length≤1000000) (h0:0≤now) (h9:now≤1099511627776) :
  Calls Tryz.prog 11 #[.pointer (some ⟨g,0,none⟩),.agg (repA err A data.length c ver r3 r4 r5 r6),.int .i64 now] w (RetTk (fun w' s'=>∃ pr pn,CmAt w' base g s' q pr pn) w g (takeT takeS s err data ver now) (.int .i64 (if s.asked=true then 0 else 1))):=by
 have hap:ApplyC:=fun w B m p d q h1 h2 h3 h4 h5 h6=>apply_calls w h1 h2 h3 h4 h5 h6
 have hdc:DecC:=fun w B n c A s h1 h2 h3 h4 h5=>dec_calls w h1 h2 h3 h4 h5
 unfold takeT
 cases ha:s.asked
 ·refine (take_no w h ha (.int .i64 err) (.slice A data.length c) (.int .i64 ver) r3 r4 r5 r6 now).mono ?_
  rintro e w' ⟨rfl,hb⟩
  exact ⟨rfl,⟨pr,pn,h.below hb⟩,Only.of_below hb⟩
 simp only [if_true]
 have hst:=hi.g.asked ha
 have hf:=hi.g.fails hst
 have ht:=hi.g.tries
 have fin:∀ {s':Cst},takeS s err data ver now=s'→Calls Tryz.prog 11 #[.pointer (some ⟨g,0,none⟩),.agg (repA err A data.length c ver r3 r4 r5 r6),.int .i64 now] w (RetTake w base g s' q)→Calls Tryz.prog 11 #[.pointer (some ⟨g,0,none⟩),.agg (repA err A data.length c ver r3 r4 r5 r6),.int .i64 now] w (RetTk (fun w' s'=>∃ pr pn,CmAt w' base g s' q pr pn) w g (takeS s err data ver now) (.int .i64 0)):=by
  rintro s' rfl hc
  refine hc.mono ?_
  rintro e w' ⟨rfl,pr',pn',h1,h2⟩
  exact ⟨rfl,⟨pr',pn',h1⟩,h2⟩
 by_cases hnet:err=10∨err=9
 ·refine fin ?_ (take_net w h ha A data.length c ver r3 r4 r5 r6 now err (Jh hnet) (by omega) h0 h9 hi.g.wait (if s.tries≤(s.fails:Int)+1 then 3 else s.st) (if s.tries≤(s.fails:Int)+1 then 15 else s.er) (Jh fun h=>by rw [if_pos h,if_pos h];exact ⟨rfl,rfl⟩) (Jh fun h=>by rw [if_neg h,if_neg h];exact ⟨rfl,rfl⟩) s.writes rfl)
  unfold takeS
  rw [if_pos hnet]
 cases hw:s.writes
 ·by_cases h7:err=7
  ·refine fin ?_ (take_none hap hb0 hi.g.ge w hm h ha hw A data.length c ver r3 r4 r5 r6 now err (Jh h7))
   unfold takeS
   rw [if_neg hnet,if_neg (by rw [hw];decide),if_pos h7]
  by_cases h00:err=0
  ·by_cases hd:(decB data).2=0
   ·refine fin ?_ (take_read hap hdc hb0 hi.g.ge w hm h ha hw A data.length c ver r3 r4 r5 r6 now err (Jh h00) data (Jh hbt) hnc hn (dec_gd data) (Jh hd))
    unfold takeS
    rw [if_neg hnet,if_neg (by rw [hw];decide),if_neg h7,if_neg (by simpa using h00),if_neg (by simpa using hd)]
   ·refine fin ?_ (take_garb hap hdc hb0 hi.g.ge w hm h ha hw A data.length c ver r3 r4 r5 r6 now err (Jh h00) data (Jh hbt) hnc hn (dec_gd data) (Jh hd))
    unfold takeS
    rw [if_neg hnet,if_neg (by rw [hw];decide),if_neg h7,if_neg (by simpa using h00),if_pos hd]
  ·refine fin ?_ (take_rfail w h ha hw A data.length c ver r3 r4 r5 r6 now err (fun e=>hnet (.inl e)) (fun e=>hnet (.inr e)) h7 h00)
   unfold takeS
   rw [if_neg hnet,if_neg (by rw [hw];decide),if_neg h7,if_pos h00]
 ·by_cases h00:err=0
  ·refine fin ?_ (take_done w h ha hw A data.length c ver r3 r4 r5 r6 now err (Jh h00))
   unfold takeS
   rw [if_neg hnet,if_pos hw,if_pos h00]
  by_cases h8:err=8
  ·refine fin ?_ (take_vers w h ha hw A data.length c ver r3 r4 r5 r6 now err (Jh h8))
   unfold takeS
   rw [if_neg hnet,if_pos hw,if_neg h00,if_pos h8]
  ·refine fin ?_ (take_wfail w h ha hw A data.length c ver r3 r4 r5 r6 now err (fun e=>hnet (.inl e)) (fun e=>hnet (.inr e)) h8 h00)
   unfold takeS
   rw [if_neg hnet,if_pos hw,if_neg h00,if_neg h8]
end
theorem Mow.only_ {w w':World} {base g:Nat} {m:Md} {p:Pl} (h:Mow w base m p) (ho:Only g w w') (hg:g<base):Mow w' base m p:=⟨own_only h.oe ho hg,own_only h.om ho hg,own_only h.oo ho hg⟩
set_option maxRecDepth 100000 in
set_option maxHeartbeats 6400000 in
theorem twinC_calls (w:World) {B:Nat} {m:Md} {p:Pl} (h:Man w B m p) (hB:B≤w.heap.size) (hl:m.E.length≤1000000∧m.M.length≤1000000∧m.O.length≤1000000) :
  Calls Tryz.prog 34 #[mdV m p] w fun e w'=>∃ pz,e=.returned (mdV m pz)∧Mow w' w.heap.size m pz∧Below w.heap.size w w':=by
 obtain ⟨l1,l2,l3⟩:=hl
 have HE:=Jh h
 clear h
 have HZa:Hid (Blk ((w.alloc (.cells #[.int .i64 m.gen,.int .i64 m.cut,.int .i64 m.fence,.slice p.AE m.E.length p.cE,.slice p.AM m.M.length p.cM,.slice p.AO m.O.length p.cO] 53)).alloc (.cells #[.int .i64 0,.int .i64 0,.int .i64 0,.slice none 0 0,.slice none 0 0,.slice none 0 0] 53)) (w.heap.size+1) 53 #[.int .i64 0,.int .i64 0,.int .i64 0,.slice none 0 0,.slice none 0 0,.slice none 0 0]):=Jh (by
  have:=Blk.new (w.alloc (.cells #[.int .i64 m.gen,.int .i64 m.cut,.int .i64 m.fence,.slice p.AE m.E.length p.cE,.slice p.AM m.M.length p.cM,.slice p.AO m.O.length p.cO] 53)) 53 #[.int .i64 0,.int .i64 0,.int .i64 0,.slice none 0 0,.slice none 0 0,.slice none 0 0]
  rw [World.size_alloc] at this
  exact this)
 have hbk:=(Blk.new w 53 #[.int .i64 m.gen,.int .i64 m.cut,.int .i64 m.fence,.slice p.AE m.E.length p.cE,.slice p.AM m.M.length p.cM,.slice p.AO m.O.length p.cO]).alloc (.cells #[.int .i64 0,.int .i64 0,.int .i64 0,.slice none 0 0,.slice none 0 0,.slice none 0 0] 53)
 have hba:=((Below.refl w.heap.size w).alloc (Nat.le_refl _) (.cells #[.int .i64 m.gen,.int .i64 m.cut,.int .i64 m.fence,.slice p.AE m.E.length p.cE,.slice p.AM m.M.length p.cM,.slice p.AO m.O.length p.cO] 53)).alloc (by simp) (.cells #[.int .i64 0,.int .i64 0,.int .i64 0,.slice none 0 0,.slice none 0 0,.slice none 0 0] 53)
 have hza:((w.alloc (.cells #[.int .i64 m.gen,.int .i64 m.cut,.int .i64 m.fence,.slice p.AE m.E.length p.cE,.slice p.AM m.M.length p.cM,.slice p.AO m.O.length p.cO] 53)).alloc (.cells #[.int .i64 0,.int .i64 0,.int .i64 0,.slice none 0 0,.slice none 0 0,.slice none 0 0] 53)).heap.size=w.heap.size+1+1:=by simp
 go_enter Tryz.func34,Tryz.ntmps34
 go_upto_region 1 with fail
 obtain ⟨gz,hgz⟩:∃ gz,gz=w.heap.size+1:=⟨_,rfl⟩
 rw [← hgz] at HZa ⊢
 obtain ⟨gx,hgx⟩:∃ gx,gx=w.heap.size:=⟨_,rfl⟩
 rw [← hgx] at hbk ⊢
 have HGX:=Jh hgx
 have HGZ:=Jh hgz
 have HZS:=Jh hza
 clear hgx hgz hza
 generalize (w.alloc (.cells #[.int .i64 m.gen,.int .i64 m.cut,.int .i64 m.fence,.slice p.AE m.E.length p.cE,.slice p.AM m.M.length p.cM,.slice p.AO m.O.length p.cO] 53)).alloc (.cells #[.int .i64 0,.int .i64 0,.int .i64 0,.slice none 0 0,.slice none 0 0,.slice none 0 0] 53)=wa at *
 have HBk:=Jh hbk
 have HBa:=Jh hba
 clear hbk hba
 have Hc:Hid (∀ W,Below wa.heap.size wa W→W.cell? ⟨gx,3,none⟩=some (.slice p.AE m.E.length p.cE)∧W.cell? ⟨gx,4,none⟩=some (.slice p.AM m.M.length p.cM)∧W.cell? ⟨gx,5,none⟩=some (.slice p.AO m.O.length p.cO)):=Jh fun W hW=>by
  have h9:=HBk.out.below hW HBk.out.lt
  exact ⟨h9.cell 3,h9.cell 4,h9.cell 5⟩
 have HEa:Hid (∀ W,Below wa.heap.size wa W→Man W B m p):=Jh fun W hW=>HE.out.below ((HBa.out.trans (hW.mono HBa.out.size)).mono hB)
 have HC1:=Jh fun W (hW:Below wa.heap.size wa W)=>cloneE_calls W (c:=p.cE) (HEa.out W hW).re (by have:=hW.size;have:=HBa.out.size;omega) (by omega)
 have HC2:=Jh fun W (hW:Below wa.heap.size wa W)=>cloneM_calls W (c:=p.cM) (HEa.out W hW).rm (by have:=hW.size;have:=HBa.out.size;omega) (by omega)
 have HC3:=Jh fun W (hW:Below wa.heap.size wa W)=>cloneO_calls W (c:=p.cO) (HEa.out W hW).ro (by have:=hW.size;have:=HBa.out.size;omega) (by omega)
 have HW0:Hid (Below wa.heap.size wa wa.drew):=Jh (below_drewN_ (Below.refl _ _) 1)
 refine wp_region_C (fun i=>i == 10||i == 11||i == 12||i == 13||i == 14) (fun w'=>w'.cell? ⟨gx,3,none⟩=some (.slice p.AE m.E.length p.cE)∧w'.cell? ⟨gx,4,none⟩=some (.slice p.AM m.M.length p.cM)∧w'.cell? ⟨gx,5,none⟩=some (.slice p.AO m.O.length p.cO)) (by kernel_rfl) (Hc.out _ HW0.out) (fun hHeld=>?_)
 generalize wa.drew=u0 at *
 apply tkC 0
 apply tkC 1
 apply tkC 3
 apply tkC 4
 apply tkC 6
 apply tkC 7
 refine wpAnyC_one (i:=2) (by kernel_rfl) rfl (fun K hK=>?_);go_simp
 refine (HC1.out u0 HW0.out).mono ?_
 rintro en u1 ⟨A1,c1,rfl,ho1,hb1⟩
 have HB1:=Jh (HW0.out.trans (hb1.mono HW0.out.size))
 have hS1:=Hc.out _ HB1.out
 refine hK.out _ _ (fun _=>hS1) ?_
 have HO1:=Jh ho1
 clear hK K hHeld hb1 ho1
 (try simp only [Act.put,Jk,Jg,Ji,Jd,Je,Jf])
 apply tkC 9
 refine wpAnyC_one (i:=5) (by kernel_rfl) rfl (fun K hK=>?_);go_simp
 refine (HC2.out u1 HB1.out).mono ?_
 rintro en u2 ⟨A2,c2,rfl,ho2,hb2⟩
 have HB2:=Jh (HB1.out.trans (hb2.mono HB1.out.size))
 have hS2:=Hc.out _ HB2.out
 refine hK.out _ _ (fun _=>hS2) ?_
 have HO2:=Jh ho2
 have HO12:=Jh (own_below HO1.out hb2)
 have hsz1:=HB1.out.size
 clear hK K hS1 hb2 ho2 HB1 HO1
 (try simp only [Act.put,Jk,Jg,Ji,Jd,Je,Jf])
 refine wpAnyC_one (i:=8) (by kernel_rfl) rfl (fun K hK=>?_);go_simp
 refine (HC3.out u2 HB2.out).mono ?_
 rintro en u3 ⟨A3,c3,rfl,ho3,hb3⟩
 have HB3:=Jh (HB2.out.trans (hb3.mono HB2.out.size))
 have hS3:=Hc.out _ HB3.out
 refine hK.out _ _ (fun _=>hS3) ?_
 have HO3:=Jh ho3
 have HO13:=Jh (own_below HO12.out hb3)
 have HO23:=Jh (own_below HO2.out hb3)
 have hsz2:=HB2.out.size
 clear hK K hS2 hb3 ho3 HB2 HO12 HO2
 (try simp only [Act.put,Jk,Jg,Ji,Jd,Je,Jf])
 have HBk3:=Jh (HBk.out.below HB3.out HBk.out.lt)
 have HBz3:=Jh (HZa.out.below HB3.out HZa.out.lt)
 have HB03:Hid (Below w.heap.size w u3):=Jh (HBa.out.trans (HB3.out.mono HBa.out.size))
 have f0:=HBk3.out.frozen 3
 have f1:=HBk3.out.frozen 4
 have f2:=HBk3.out.frozen 5
 clear HC1 HC2 HC3 HEa Hc HB3
 have b1:=HBk3.out.set_ 3 (.slice A1 m.E.length c1)
 have b2:=b1.set_ 4 (.slice A2 m.M.length c2)
 have b3:=b2.set_ 5 (.slice A3 m.O.length c3)
 simp only [Jd,Je,Jf] at b1 b2 b3
 have g1:=b1.frozen 4
 have g2:=b2.frozen 5
 have HBy:=Jh b3
 have HBl:Hid (Below w.heap.size w (((u3.setCell ⟨gx,3,none⟩ (.slice A1 m.E.length c1)).setCell ⟨gx,4,none⟩ (.slice A2 m.M.length c2)).setCell ⟨gx,5,none⟩ (.slice A3 m.O.length c3))):=Jh (((HB03.out.setCell (p:=⟨gx,3,none⟩) (show w.heap.size≤gx by have:=HGX.out;omega) _).setCell (p:=⟨gx,4,none⟩) (show w.heap.size≤gx by have:=HGX.out;omega) _).setCell (p:=⟨gx,5,none⟩) (show w.heap.size≤gx by have:=HGX.out;omega) _)
 clear b1 b2 b3
 have HON:Hid (Only gx u3 (((u3.setCell ⟨gx,3,none⟩ (.slice A1 m.E.length c1)).setCell ⟨gx,4,none⟩ (.slice A2 m.M.length c2)).setCell ⟨gx,5,none⟩ (.slice A3 m.O.length c3))):=Jh ((((Only.refl gx u3).setCell (.inl rfl) _).setCell (.inl rfl) _).setCell (.inl rfl) _)
 have HEd:Hid (Mow (((u3.setCell ⟨gx,3,none⟩ (.slice A1 m.E.length c1)).setCell ⟨gx,4,none⟩ (.slice A2 m.M.length c2)).setCell ⟨gx,5,none⟩ (.slice A3 m.O.length c3)) (w.heap.size+1+1) m ⟨A1,c1,A2,c2,A3,c3⟩):=Jh (by
  have hw0:=HW0.out.size
  have hwa:=HZS.out
  exact (Mow.only_ (⟨own_mono HO13.out (by omega),own_mono HO23.out (by omega),own_mono HO3.out (by omega)⟩:Mow u3 (w.heap.size+1+1) m ⟨A1,c1,A2,c2,A3,c3⟩) HON.out (by have:=HGX.out;omega)))
 have HBz:=Jh (HON.out.blk HBz3.out (show gz≠gx by have:=HGX.out;have:=HGZ.out;omega))
 refine wpAnyC_one (i:=10) (by kernel_rfl) rfl (fun K hK=>?_);go_simp
 refine hK.out _ _ (fun h=>by cases h) ?_
 clear hK K
 (try simp only [Act.put,Jk,Jg,Ji,Jd,Je,Jf])
 refine wpAnyC_one (i:=11) (by kernel_rfl) rfl (fun K hK=>?_);go_simp
 refine hK.out _ _ (fun h=>by cases h) ?_
 clear hK K
 (try simp only [Act.put,Jk,Jg,Ji,Jd,Je,Jf])
 refine wpAnyC_one (i:=12) (by kernel_rfl) rfl (fun K hK=>?_);go_simp
 refine hK.out _ _ (fun h=>by cases h) ?_
 clear hK K
 (try simp only [Act.put,Jk,Jg,Ji,Jd,Je,Jf])
 refine wpAnyC_one (i:=13) (by kernel_rfl) rfl (fun K hK=>?_);go_simp
 refine hK.out _ _ (fun h=>by cases h) ?_
 clear hK K
 (try simp only [Act.put,Jk,Jg,Ji,Jd,Je,Jf])
 refine wpAnyC_one (i:=14) (by kernel_rfl) rfl (fun K hK=>?_);go_simp
 refine hK.out _ _ (fun h=>by cases h) (wpAnyC_done (by kernel_rfl) ?_ _)
 clear hK K HBz3 HBk3 HON
 generalize ((u3.setCell ⟨gx,3,none⟩ (.slice A1 m.E.length c1)).setCell ⟨gx,4,none⟩ (.slice A2 m.M.length c2)).setCell ⟨gx,5,none⟩ (.slice A3 m.O.length c3)=u4 at *
 obtain ⟨z0,z1,z2,z3,z4,z5⟩:u4.cell? ⟨gx,0,none⟩=some (.int .i64 m.gen)∧u4.cell? ⟨gx,1,none⟩=some (.int .i64 m.cut)∧u4.cell? ⟨gx,2,none⟩=some (.int .i64 m.fence)∧u4.cell? ⟨gx,3,none⟩=some (.slice A1 m.E.length c1)∧u4.cell? ⟨gx,4,none⟩=some (.slice A2 m.M.length c2)∧u4.cell? ⟨gx,5,none⟩=some (.slice A3 m.O.length c3):=⟨HBy.out.cell 0,HBy.out.cell 1,HBy.out.cell 2,HBy.out.cell 3,HBy.out.cell 4,HBy.out.cell 5⟩
 obtain ⟨y0,y1,y2,y3,y4,y5⟩:u4.cell? ⟨gz,0,none⟩=some (.int .i64 0)∧u4.cell? ⟨gz,1,none⟩=some (.int .i64 0)∧u4.cell? ⟨gz,2,none⟩=some (.int .i64 0)∧u4.cell? ⟨gz,3,none⟩=some (.slice none 0 0)∧u4.cell? ⟨gz,4,none⟩=some (.slice none 0 0)∧u4.cell? ⟨gz,5,none⟩=some (.slice none 0 0):=⟨HBz.out.cell 0,HBz.out.cell 1,HBz.out.cell 2,HBz.out.cell 3,HBz.out.cell 4,HBz.out.cell 5⟩
 have k0:=HBz.out.frozen 0
 have k1:=HBz.out.frozen 1
 have k2:=HBz.out.frozen 2
 have k3:=HBz.out.frozen 3
 have k4:=HBz.out.frozen 4
 have k5:=HBz.out.frozen 5
 clear f0 f1 f2 g1 g2
 go_wp2
 have hO4:=set6_only (Only.refl gz u4) (.int .i64 m.gen) (.int .i64 m.cut) (.int .i64 m.fence) (.slice A1 m.E.length c1) (.slice A2 m.M.length c2) (.slice A3 m.O.length c3)
 have hB4:=set6_blk HBz.out (.int .i64 m.gen) (.int .i64 m.cut) (.int .i64 m.fence) (.slice A1 m.E.length c1) (.slice A2 m.M.length c2) (.slice A3 m.O.length c3)
 have hgz:=HGZ.out
 refine bodyPost_ret (results_cell_row rfl _ _ gz 53 #[.int .i64 m.gen,.int .i64 m.cut,.int .i64 m.fence,.slice A1 m.E.length c1,.slice A2 m.M.length c2,.slice A3 m.O.length c3] (0,0) _ rfl hB4 Tryz.underlying53 rfl (by kernel_rfl)) rfl ?_
 exact ⟨⟨A1,c1,A2,c2,A3,c3⟩,rfl,(HEd.out.only_ hO4 (by omega)).mono (by omega),set6_below HBl.out (by omega) (.int .i64 m.gen) (.int .i64 m.cut) (.int .i64 m.fence) (.slice A1 m.E.length c1) (.slice A2 m.M.length c2) (.slice A3 m.O.length c3)⟩
set_option maxRecDepth 100000 in
set_option maxHeartbeats 3200000 in
theorem manP_calls (w:World) {base g:Nat} {s:Cst} {q:Pd} {pr pn:Pl} (h:CmAt w base g s q pr pn) (hg:Gd s.read) :
  Calls Tryz.prog 15 #[.pointer (some ⟨g,0,none⟩)] w fun e w'=>∃ pz,e=.returned (mdV s.read pz)∧Mow w' w.heap.size s.read pz∧Below w.heap.size w w':=by
 have hw1:Below w.heap.size w (w.alloc (.cells #[.int .i64 0,.int .i64 0,.int .i64 0,.slice none 0 0,.slice none 0 0,.slice none 0 0] 53)):=(Below.refl _ _).alloc (Nat.le_refl _) _
 have h1:=h.below hw1
 have hl:=hg.e
 have hl2:=hg.m_
 have hl3:=hg.o
 have HT:=Jh (twinC_calls (w.alloc (.cells #[.int .i64 0,.int .i64 0,.int .i64 0,.slice none 0 0,.slice none 0 0,.slice none 0 0] 53)) (h1.rd.good hg) (Nat.le_refl _) ⟨by omega,by omega,by omega⟩)
 obtain ⟨AE,cE,AM,cM,AO,cO⟩:=pr
 have hb:=h1.blk
 have z0:=hb.cell 15
 have z1:=hb.cell 16
 have z2:=hb.cell 17
 have z3:=hb.cell 18
 have z4:=hb.cell 19
 have z5:=hb.cell 20
 simp only [Ja,Jb,Jc] at z0 z1 z2 z3 z4 z5
 have HW1:=Jh hw1
 have HBz:=Jh (Blk.new w 53 #[.int .i64 0,.int .i64 0,.int .i64 0,.slice none 0 0,.slice none 0 0,.slice none 0 0])
 have hz:w.heap.size<(w.alloc (.cells #[.int .i64 0,.int .i64 0,.int .i64 0,.slice none 0 0,.slice none 0 0,.slice none 0 0] 53)).heap.size:=by simp
 clear h h1 hb hw1 hl hl2 hl3
 go_enter Tryz.func15,Tryz.ntmps15
 go_wp2_with fail
 refine HT.out.mono ?_
 rintro e w2 ⟨pz,rfl,hmo,hb2⟩
 obtain ⟨ZE,zE,ZM,zM,ZO,zO⟩:=pz
 have HB2:=Jh (HBz.out.below hb2 hz)
 have HW2:=Jh (HW1.out.trans (hb2.mono HW1.out.size))
 have HM:=Jh (hmo.mono (show w.heap.size+1≤_ by simp))
 obtain ⟨y0,y1,y2,y3,y4,y5⟩:w2.cell? ⟨w.heap.size,0,none⟩=some (.int .i64 0)∧w2.cell? ⟨w.heap.size,1,none⟩=some (.int .i64 0)∧w2.cell? ⟨w.heap.size,2,none⟩=some (.int .i64 0)∧w2.cell? ⟨w.heap.size,3,none⟩=some (.slice none 0 0)∧w2.cell? ⟨w.heap.size,4,none⟩=some (.slice none 0 0)∧w2.cell? ⟨w.heap.size,5,none⟩=some (.slice none 0 0):=⟨HB2.out.cell 0,HB2.out.cell 1,HB2.out.cell 2,HB2.out.cell 3,HB2.out.cell 4,HB2.out.cell 5⟩
 have k0:=HB2.out.frozen 0
 have k1:=HB2.out.frozen 1
 have k2:=HB2.out.frozen 2
 have k3:=HB2.out.frozen 3
 have k4:=HB2.out.frozen 4
 have k5:=HB2.out.frozen 5
 clear hmo hb2 HT HBz HW1 z0 z1 z2 z3 z4 z5 hz
 go_wp2
 have hO4:=set6_only (Only.refl w.heap.size w2) (.int .i64 s.read.gen) (.int .i64 s.read.cut) (.int .i64 s.read.fence) (.slice ZE s.read.E.length zE) (.slice ZM s.read.M.length zM) (.slice ZO s.read.O.length zO)
 have hB4:=set6_blk HB2.out (.int .i64 s.read.gen) (.int .i64 s.read.cut) (.int .i64 s.read.fence) (.slice ZE s.read.E.length zE) (.slice ZM s.read.M.length zM) (.slice ZO s.read.O.length zO)
 refine bodyPost_ret (results_cell_row rfl _ _ w.heap.size 53 #[.int .i64 s.read.gen,.int .i64 s.read.cut,.int .i64 s.read.fence,.slice ZE s.read.E.length zE,.slice ZM s.read.M.length zM,.slice ZO s.read.O.length zO] (0,0) _ rfl hB4 Tryz.underlying53 rfl (by kernel_rfl)) rfl ?_
 exact ⟨⟨ZE,zE,ZM,zM,ZO,zO⟩,rfl,(HM.out.only_ hO4 (by omega)).mono (by omega),set6_below HW2.out (by omega) (.int .i64 s.read.gen) (.int .i64 s.read.cut) (.int .i64 s.read.fence) (.slice ZE s.read.E.length zE) (.slice ZM s.read.M.length zM) (.slice ZO s.read.O.length zO)⟩
theorem sw_did {M:Md} {o:Ed} {y:Ow} (hne:o.by_.agent≠y.agent):(swM M o).O.any (didB y)=M.O.any (didB y):=by
 unfold swM
 by_cases h:appE M o=0
 ·rw [if_pos h,appM_ok h]
  have hF:=(appE_zero.1 h).1.f
  show (putL Ow.agent o.by_ M.O).any (didB y)=M.O.any (didB y)
  rw [Bool.eq_iff_iff,List.any_eq_true,List.any_eq_true]
  constructor
  ·rintro ⟨z,hz,hd⟩
   rcases (putL_mem hF.r.srtO).1 hz with rfl|⟨h1,_⟩
   ·unfold didB at hd
    simp only [Bool.and_eq_true,decide_eq_true_eq] at hd
    exact absurd hd.1.1 hne
   ·exact ⟨z,h1,hd⟩
  ·rintro ⟨z,hz,hd⟩
   refine ⟨z,(putL_mem hF.r.srtO).2 (.inr ⟨hz,fun e=>?_⟩),hd⟩
   unfold didB at hd
   simp only [Bool.and_eq_true,decide_eq_true_eq] at hd
   exact hne (by rw [← e];exact hd.1.1)
 ·rw [if_neg h]
theorem take_get {s:Cst} (ha:s.asked=true) (hw:s.writes=false) {M:Md} {V err now:Int} {d:List UInt8} (h:(V=0∧err=7∧M=zeroM)∨(1≤V∧err=0∧d=encB M∧decB d=(M,0))) :
  takeT takeS s err d V now=sawS { s with asked:=false,writes:=false } M V:=by
 unfold takeT
 rw [if_pos ha]
 unfold takeS
 rcases h with ⟨rfl,rfl,rfl⟩|⟨_,rfl,_,h⟩
 ·rw [if_neg (by omega),if_neg (by rw [hw];decide),if_pos rfl]
 ·rw [if_neg (by omega),if_neg (by rw [hw];decide),if_neg (by omega),if_neg (by omega),h,if_neg (by simp)]
theorem take_made {s:Cst} (ha:s.asked=true) (hw:s.writes=true) {d:List UInt8} {ver now:Int}:takeT takeS s 0 d ver now={ s with asked:=false,writes:=false,read:=s.next,st:=1,er:=0 }:=by
 unfold takeT
 rw [if_pos ha]
 unfold takeS
 rw [if_neg (by omega),if_pos hw,if_pos rfl]
section
variable {w w':World} {base gs:Nat} {M:Md} {p:Pl} {d:Ed} {q:Pd} {s:Cst} {g:Nat} {pr pn:Pl}
theorem Mow.kt (h:Mow w base M p) (k:KT w w'):Mow w' base M p:=⟨k.row h.oe (by decide) (by decide),k.row h.om (by decide) (by decide),k.row h.oo (by decide) (by decide)⟩
theorem Edo.kt (h:Edo w base d q) (k:KT w w'):Edo w' base d q:=⟨k.row h.oa (by decide) (by decide),k.row h.od (by decide) (by decide),k.row h.om (by decide) (by decide)⟩
theorem CmAt.kt (h:CmAt w base g s q pr pn) (k:KT w w'):CmAt w' base g s q pr pn:=⟨h.low,k.blk_ h.blk (by decide) (by decide),h.ed.kt k,h.rd.kt k,h.nx.kt k⟩
end
end Go.Proofs.YtibnehaibgbliaaGreat.Mf
namespace Go.Proofs.YtibnehaibgbliaaGreat.Mf
open Go.RowKit Go.Proofs.YtibnehaibgbliaaGreat
open Go.ChangeShapes Go.WideShapes
theorem wf_u32 {x:Int} (h:(Lit.int .u32 x).wf=true):0≤x∧x≤4294967295:=by
 have h2:IntKind.u32.min=0:=rfl
 have h3:IntKind.u32.max=4294967295:=rfl
 simp only [Lit.wf,Bool.and_eq_true,decide_eq_true_eq,h2,h3] at h
 exact h
section
variable {H:Type} {enc:TypeId × Value→H} {W:World} {v:Value} {d:DataW H}
theorem part_ens (h:Part enc Tryz.prog W 22 v d) :
  ∃ (A:Option Addr) (c:Nat) (l:List En),v=.slice A l.length c∧l.length≤c∧l.length≤17592186044416∧Reads W W.heap.size 9 A l.length (l.flatMap En.cs)∧∀ x∈l,x.Ok:=by
 obtain ⟨A,c,l,e,hl,_,hby,hr,hg⟩:=h.flat Tryz.underlying22 Tryz.underlying85 (by kernel_rfl) (by kernel_rfl) (by decide) En.cs (fun _=>rfl) (fun x=>x.Ok) (fun us hu=>by
  obtain ⟨y0,t0⟩:=hu 0 _ rfl
  obtain ⟨y1,t1⟩:=hu 1 _ rfl
  obtain ⟨y2,t2⟩:=hu 2 _ rfl
  obtain ⟨y3,t3⟩:=hu 3 _ rfl
  obtain ⟨y4,t4⟩:=hu 4 _ rfl
  obtain ⟨y5,t5⟩:=hu 5 _ rfl
  obtain ⟨y6,t6⟩:=hu 6 _ rfl
  obtain ⟨y7,t7⟩:=hu 7 _ rfl
  obtain ⟨y8,t8⟩:=hu 8 _ rfl
  obtain ⟨x0,e0,s0⟩:=t0.str Tryz.underlying9
  obtain ⟨x1,e1,_⟩:=t1.int Tryz.underlying3
  obtain ⟨x2,e2,s2⟩:=t2.str Tryz.underlying9
  obtain ⟨x3,e3,_⟩:=t3.int Tryz.underlying3
  obtain ⟨x4,e4,_⟩:=t4.int Tryz.underlying3
  obtain ⟨x5,e5,_⟩:=t5.int Tryz.underlying3
  obtain ⟨x6,e6,_⟩:=t6.int Tryz.underlying3
  obtain ⟨x7,e7,s7⟩:=t7.int Tryz.underlying83
  obtain ⟨x8,e8,_⟩:=t8.int Tryz.underlying3
  refine ⟨⟨x0,x1,x2,x3,x4,x5,x6,x7,x8⟩,⟨s0,s2,wf_u32 s7⟩,fun j hj=>?_⟩
  have hj9:j<9:=hj
  have:j=0∨j=1∨j=2∨j=3∨j=4∨j=5∨j=6∨j=7∨j=8:=by omega
  rcases this with rfl|rfl|rfl|rfl|rfl|rfl|rfl|rfl|rfl
  ·rw [e0];rfl
  ·rw [e1];rfl
  ·rw [e2];rfl
  ·rw [e3];rfl
  ·rw [e4];rfl
  ·rw [e5];rfl
  ·rw [e6];rfl
  ·rw [e7];rfl
  ·rw [e8];rfl)
 have hbz:Tryz.prog.bytesOf 85=88:=by kernel_rfl
 rw [hbz] at hby
 exact ⟨A,c,l,e,hl,by omega,hr,hg⟩
theorem part_mks (h:Part enc Tryz.prog W 24 v d) :
  ∃ (A:Option Addr) (c:Nat) (l:List Mk),v=.slice A l.length c∧l.length≤c∧l.length≤17592186044416∧Reads W W.heap.size 2 A l.length (l.flatMap Mk.cs):=by
 obtain ⟨A,c,l,e,hl,_,hby,hr,hg⟩:=h.flat Tryz.underlying24 Tryz.underlying90 (by kernel_rfl) (by kernel_rfl) (by decide) Mk.cs (fun _=>rfl) (fun x=>True) (fun us hu=>by
  obtain ⟨y0,t0⟩:=hu 0 _ rfl
  obtain ⟨y1,t1⟩:=hu 1 _ rfl
  obtain ⟨x0,e0,_⟩:=t0.int Tryz.underlying3
  obtain ⟨x1,e1,_⟩:=t1.int Tryz.underlying3
  refine ⟨⟨x0,x1⟩,trivial,fun j hj=>?_⟩
  have hj9:j<2:=hj
  have:j=0∨j=1:=by omega
  rcases this with rfl|rfl
  ·rw [e0];rfl
  ·rw [e1];rfl)
 have hbz:Tryz.prog.bytesOf 90=16:=by kernel_rfl
 rw [hbz] at hby
 exact ⟨A,c,l,e,hl,by omega,hr⟩
theorem flat_str:∀ l:List ByteArray,(l.flatMap fun s=>[Value.string s])=l.map Value.string
 | []=>rfl
 | a::r=>by rw [List.flatMap_cons,List.map_cons,flat_str r];rfl
theorem part_strs (h:Part enc Tryz.prog W 23 v d) :
  ∃ (A:Option Addr) (c:Nat) (l:List ByteArray),v=.slice A l.length c∧l.length≤c∧l.length≤17592186044416∧Reads W W.heap.size 1 A l.length (l.map Value.string)∧∀ k∈l,k.size≤140737488351232:=by
 obtain ⟨A,c,l,e,hl,_,hby,hr,hg⟩:=h.rows Tryz.underlying23 (size:=1) (by kernel_rfl) (by decide) (fun s:ByteArray=>[Value.string s]) (fun s=>s.size≤140737488351232) (fun cs y hcs hp=>by
  match cs,hcs with
  | [c0],_ =>
   obtain ⟨s,rfl,hs⟩:=hp.one.str Tryz.underlying9
   exact ⟨s,hs,rfl⟩) (fun _=>rfl)
 have hbz:Tryz.prog.bytesOf 9=16:=by kernel_rfl
 rw [hbz] at hby
 rw [flat_str] at hr
 exact ⟨A,c,l,e,hl,by omega,hr,hg⟩
end
set_option maxRecDepth 100000 in
theorem arg_own {H:Type} {enc:TypeId × Value→H} {W:World} {v:Value} {d:DataW H} {cs:List Value} (hr:PartC enc Tryz.prog W 26 cs d):∃ y:Ow,cs=y.cs:=by
 have h7:cs.length=3:=(hr.len Tryz.underlying26).trans (by kernel_rfl)
 match cs,h7 with
 | [c0,c1,c2],_ =>
  obtain ⟨y0,h0⟩:=hr.fieldAt Tryz.underlying26 0 0 1 3 (by kernel_rfl)
  obtain ⟨y1,h1⟩:=hr.fieldAt Tryz.underlying26 1 1 1 3 (by kernel_rfl)
  obtain ⟨y2,h2⟩:=hr.fieldAt Tryz.underlying26 2 2 1 3 (by kernel_rfl)
  have h0:PartC enc Tryz.prog W 3 [c0] y0:=h0
  have h1:PartC enc Tryz.prog W 3 [c1] y1:=h1
  have h2:PartC enc Tryz.prog W 3 [c2] y2:=h2
  obtain ⟨a,rfl,_⟩:=h0.one.int Tryz.underlying3
  obtain ⟨b,rfl,_⟩:=h1.one.int Tryz.underlying3
  obtain ⟨c,rfl,_⟩:=h2.one.int Tryz.underlying3
  exact ⟨⟨a,b,c⟩,rfl⟩
set_option maxRecDepth 100000 in
theorem part_edit {H:Type} {enc:TypeId × Value→H} {W:World} {d:DataW H} {cs:List Value} (hr:PartC enc Tryz.prog W 28 cs d):∃ x q,cs=[.slice q.AA x.add.length q.cA,.slice q.AD x.drop.length q.cD,.slice q.AM x.marks.length q.cM,.int .i64 x.cut,.int .i64 x.fence,.int .i64 x.by_.agent,.int .i64 x.by_.life,.int .i64 x.by_.count]∧Edi W W.heap.size x q:=by
 have h7:cs.length=8:=(hr.len Tryz.underlying28).trans (by kernel_rfl)
 match cs,h7 with
 | [c0,c1,c2,c3,c4,c5,c6,c7],_ =>
  obtain ⟨y0,h0⟩:=hr.fieldAt Tryz.underlying28 0 0 1 22 (by kernel_rfl)
  obtain ⟨y1,h1⟩:=hr.fieldAt Tryz.underlying28 1 1 1 23 (by kernel_rfl)
  obtain ⟨y2,h2⟩:=hr.fieldAt Tryz.underlying28 2 2 1 24 (by kernel_rfl)
  obtain ⟨y3,h3⟩:=hr.fieldAt Tryz.underlying28 3 3 1 3 (by kernel_rfl)
  obtain ⟨y4,h4⟩:=hr.fieldAt Tryz.underlying28 4 4 1 3 (by kernel_rfl)
  obtain ⟨y5,h5⟩:=hr.fieldAt Tryz.underlying28 5 5 3 26 (by kernel_rfl)
  have h0:PartC enc Tryz.prog W 22 [c0] y0:=h0
  have h1:PartC enc Tryz.prog W 23 [c1] y1:=h1
  have h2:PartC enc Tryz.prog W 24 [c2] y2:=h2
  have h3:PartC enc Tryz.prog W 3 [c3] y3:=h3
  have h4:PartC enc Tryz.prog W 3 [c4] y4:=h4
  have h5:PartC enc Tryz.prog W 26 [c5,c6,c7] y5:=h5
  obtain ⟨AE,cE,E,rfl,k1,k2,k3,k4⟩:=part_ens h0.one
  obtain ⟨AD,cD,D,rfl,k5,k6,k7,k8⟩:=part_strs h1.one
  obtain ⟨AM,cM,M,rfl,k9,k10,k11⟩:=part_mks h2.one
  obtain ⟨cut,rfl,_⟩:=h3.one.int Tryz.underlying3
  obtain ⟨fence,rfl,_⟩:=h4.one.int Tryz.underlying3
  obtain ⟨y,hy⟩:=arg_own (v:=.bool true) h5
  injection hy with e1 hy
  injection hy with e2 hy
  injection hy with e3 _
  subst e1 e2 e3
  exact ⟨⟨E,D,M,cut,fence,y⟩,⟨AE,cE,AD,cD,AM,cM⟩,rfl,⟨k3,k7,k11,k2,k6,k10,k1,k5,k9,k4,k8⟩⟩
set_option maxRecDepth 100000 in
theorem arg_edit {H:Type} {enc:TypeId × Value→H} {W:World} {base:Nat} {v:Value} {d:DataW H} {p:List MemPlace} (h:Arg enc Tryz.prog W base 28 v d p):∃ x q,v=edV x q∧Edi W W.heap.size x q:=by
 obtain ⟨cs,rfl,hsz⟩:=okWide_struct Tryz.underlying28 h.ok
 have hr:PartC enc Tryz.prog W 28 cs.toList d:=⟨by obtain ⟨m,hm⟩:=h.trod;exact ⟨m,p,hm⟩,h.sized⟩
 obtain ⟨x,q,hy,he⟩:=part_edit hr
 refine ⟨x,q,?_,he⟩
 have hcs:cs=⟨cs.toList⟩:=rfl
 rw [hcs,hy]
theorem var0 {w:World} (h:w.ShapedOpen Tryz.prog):Sh w:=Go.Proofs.cell_of_shapedOpen_int (zero:=#[.int .i64 0]) (t:=3) h (of_decide_eq_true (by kernel_rfl)) (by kernel_rfl) rfl (by kernel_rfl) (by kernel_rfl) Tryz.underlying3
end Go.Proofs.YtibnehaibgbliaaGreat.Mf
