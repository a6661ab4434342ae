/- Laws for the row's walk. -/
import Derived.Test.YtibnehaibgbliaaGreatR27
set_option linter.unusedVariables false
set_option linter.unusedSimpArgs false
open Go.Lib renaming hid → Jh
open List renaming getElem?_toArray → Ja, getElem?_cons_zero → Jb, getElem?_cons_succ → Jc, setIfInBounds_toArray → Jd, set_cons_zero → Je, set_cons_succ → Jf, getElem_cons_zero → Jg, getElem_cons_succ → Ji, getElem_toArray → Jk
namespace Go.Proofs.YtibnehaibgbliaaGreat.Mf
open Go.RowKit Go.Proofs.YtibnehaibgbliaaGreat
section
variable {base g:Nat} {s:Cst} {q:Pd} {pr pn:Pl}
def RetTk (K:World→Cst→Prop) (w:World) (g:Nat) (s':Cst) (v:Value) (e:Ending) (w':World):Prop:=e=.returned v∧K w' s'∧Only g w w'
noncomputable def takeT (f:Cst→Int→List UInt8→Int→Int→Cst) (s:Cst) (err:Int) (data:List UInt8) (ver now:Int):Cst:=if s.asked=true then f s err data ver now else s
theorem takeP_any (hb0:0<base) (w:World) (hm:Sh w) (h:CmAt w base g s q pr pn) (hi:Cin s) (A:Option Addr) (c:Nat) (ver:Int) (r3 r4 r5 r6:Value) (now:Int) (err:Int) (data:List UInt8) (hbt:∀ w',Only g w w'→Bytes w' w'.heap.size A data.length data) (hnc:data.length≤c) (hn:data.length≤1000000) (h0:0≤now) (h9:now≤1099511627776) :
  Calls Tryz.prog 11 #[.pointer (some ⟨g,0,none⟩),.agg (repA err A data.length c ver r3 r4 r5 r6),.int .i64 now] w (RetTk (fun w' s'=>∃ pr pn,CmAt w' base g s' q pr pn) w g (takeT takeS s err data ver now) (.int .i64 (if s.asked=true then 0 else 1))):=by
 have hap:ApplyC:=fun w B m p d q h1 h2 h3 h4 h5 h6=>apply_calls w h1 h2 h3 h4 h5 h6
 have hdc:DecC:=fun w B n c A s h1 h2 h3 h4 h5=>dec_calls w h1 h2 h3 h4 h5
 unfold takeT
 cases ha:s.asked
 ·refine (take_no w h ha (.int .i64 err) (.slice A data.length c) (.int .i64 ver) r3 r4 r5 r6 now).mono ?_
  rintro e w' ⟨rfl,hb⟩
  exact ⟨rfl,⟨pr,pn,h.below hb⟩,Only.of_below hb⟩
 simp only [if_true]
 have hst:=hi.g.asked ha
 have hf:=hi.g.fails hst
 have ht:=hi.g.tries
 have fin:∀ {s':Cst},takeS s err data ver now=s'→Calls Tryz.prog 11 #[.pointer (some ⟨g,0,none⟩),.agg (repA err A data.length c ver r3 r4 r5 r6),.int .i64 now] w (RetTake w base g s' q)→Calls Tryz.prog 11 #[.pointer (some ⟨g,0,none⟩),.agg (repA err A data.length c ver r3 r4 r5 r6),.int .i64 now] w (RetTk (fun w' s'=>∃ pr pn,CmAt w' base g s' q pr pn) w g (takeS s err data ver now) (.int .i64 0)):=by
  rintro s' rfl hc
  refine hc.mono ?_
  rintro e w' ⟨rfl,pr',pn',h1,h2⟩
  exact ⟨rfl,⟨pr',pn',h1⟩,h2⟩
 by_cases hnet:err=10∨err=9
 ·refine fin ?_ (take_net w h ha A data.length c ver r3 r4 r5 r6 now err (Jh hnet) (by omega) h0 h9 hi.g.wait (if s.tries≤(s.fails:Int)+1 then 3 else s.st) (if s.tries≤(s.fails:Int)+1 then 15 else s.er) (Jh fun h=>by rw [if_pos h,if_pos h];exact ⟨rfl,rfl⟩) (Jh fun h=>by rw [if_neg h,if_neg h];exact ⟨rfl,rfl⟩) s.writes rfl)
  unfold takeS
  rw [if_pos hnet]
 cases hw:s.writes
 ·by_cases h7:err=7
  ·refine fin ?_ (take_none hap hb0 hi.g.ge w hm h ha hw A data.length c ver r3 r4 r5 r6 now err (Jh h7))
   unfold takeS
   rw [if_neg hnet,if_neg (by rw [hw];decide),if_pos h7]
  by_cases h00:err=0
  ·by_cases hd:(decB data).2=0
   ·refine fin ?_ (take_read hap hdc hb0 hi.g.ge w hm h ha hw A data.length c ver r3 r4 r5 r6 now err (Jh h00) data (Jh hbt) hnc hn (dec_gd data) (Jh hd))
    unfold takeS
    rw [if_neg hnet,if_neg (by rw [hw];decide),if_neg h7,if_neg (by simpa using h00),if_neg (by simpa using hd)]
   ·refine fin ?_ (take_garb hap hdc hb0 hi.g.ge w hm h ha hw A data.length c ver r3 r4 r5 r6 now err (Jh h00) data (Jh hbt) hnc hn (dec_gd data) (Jh hd))
    unfold takeS
    rw [if_neg hnet,if_neg (by rw [hw];decide),if_neg h7,if_neg (by simpa using h00),if_pos hd]
  ·refine fin ?_ (take_rfail w h ha hw A data.length c ver r3 r4 r5 r6 now err (fun e=>hnet (.inl e)) (fun e=>hnet (.inr e)) h7 h00)
   unfold takeS
   rw [if_neg hnet,if_neg (by rw [hw];decide),if_neg h7,if_pos h00]
 ·by_cases h00:err=0
  ·refine fin ?_ (take_done w h ha hw A data.length c ver r3 r4 r5 r6 now err (Jh h00))
   unfold takeS
   rw [if_neg hnet,if_pos hw,if_pos h00]
  by_cases h8:err=8
  ·refine fin ?_ (take_vers w h ha hw A data.length c ver r3 r4 r5 r6 now err (Jh h8))
   unfold takeS
   rw [if_neg hnet,if_pos hw,if_neg h00,if_pos h8]
  ·refine fin ?_ (take_wfail w h ha hw A data.length c ver r3 r4 r5 r6 now err (fun e=>hnet (.inl e)) (fun e=>hnet (.inr e)) h8 h00)
   unfold takeS
   rw [if_neg hnet,if_pos hw,if_neg h00,if_neg h8]
end
theorem Mow.only_ {w w':World} {base g:Nat} {m:Md} {p:Pl} (h:Mow w base m p) (ho:Only g w w') (hg:g<base):Mow w' base m p:=⟨own_only h.oe ho hg,own_only h.om ho hg,own_only h.oo ho hg⟩
set_option maxRecDepth 100000 in
set_option maxHeartbeats 6400000 in
theorem twinC_calls (w:World) {B:Nat} {m:Md} {p:Pl} (h:Man w B m p) (hB:B≤w.heap.size) (hl:m.E.length≤1000000∧m.M.length≤1000000∧m.O.length≤1000000) :
  Calls Tryz.prog 34 #[mdV m p] w fun e w'=>∃ pz,e=.returned (mdV m pz)∧Mow w' w.heap.size m pz∧Below w.heap.size w w':=by
 obtain ⟨l1,l2,l3⟩:=hl
 have HE:=Jh h
 clear h
 have HZa:Hid (Blk ((w.alloc (.cells #[.int .i64 m.gen,.int .i64 m.cut,.int .i64 m.fence,.slice p.AE m.E.length p.cE,.slice p.AM m.M.length p.cM,.slice p.AO m.O.length p.cO] 53)).alloc (.cells #[.int .i64 0,.int .i64 0,.int .i64 0,.slice none 0 0,.slice none 0 0,.slice none 0 0] 53)) (w.heap.size+1) 53 #[.int .i64 0,.int .i64 0,.int .i64 0,.slice none 0 0,.slice none 0 0,.slice none 0 0]):=Jh (by
  have:=Blk.new (w.alloc (.cells #[.int .i64 m.gen,.int .i64 m.cut,.int .i64 m.fence,.slice p.AE m.E.length p.cE,.slice p.AM m.M.length p.cM,.slice p.AO m.O.length p.cO] 53)) 53 #[.int .i64 0,.int .i64 0,.int .i64 0,.slice none 0 0,.slice none 0 0,.slice none 0 0]
  rw [World.size_alloc] at this
  exact this)
 have hbk:=(Blk.new w 53 #[.int .i64 m.gen,.int .i64 m.cut,.int .i64 m.fence,.slice p.AE m.E.length p.cE,.slice p.AM m.M.length p.cM,.slice p.AO m.O.length p.cO]).alloc (.cells #[.int .i64 0,.int .i64 0,.int .i64 0,.slice none 0 0,.slice none 0 0,.slice none 0 0] 53)
 have hba:=((Below.refl w.heap.size w).alloc (Nat.le_refl _) (.cells #[.int .i64 m.gen,.int .i64 m.cut,.int .i64 m.fence,.slice p.AE m.E.length p.cE,.slice p.AM m.M.length p.cM,.slice p.AO m.O.length p.cO] 53)).alloc (by simp) (.cells #[.int .i64 0,.int .i64 0,.int .i64 0,.slice none 0 0,.slice none 0 0,.slice none 0 0] 53)
 have hza:((w.alloc (.cells #[.int .i64 m.gen,.int .i64 m.cut,.int .i64 m.fence,.slice p.AE m.E.length p.cE,.slice p.AM m.M.length p.cM,.slice p.AO m.O.length p.cO] 53)).alloc (.cells #[.int .i64 0,.int .i64 0,.int .i64 0,.slice none 0 0,.slice none 0 0,.slice none 0 0] 53)).heap.size=w.heap.size+1+1:=by simp
 go_enter Tryz.func34,Tryz.ntmps34
 go_upto_region 1 with fail
 obtain ⟨gz,hgz⟩:∃ gz,gz=w.heap.size+1:=⟨_,rfl⟩
 rw [← hgz] at HZa ⊢
 obtain ⟨gx,hgx⟩:∃ gx,gx=w.heap.size:=⟨_,rfl⟩
 rw [← hgx] at hbk ⊢
 have HGX:=Jh hgx
 have HGZ:=Jh hgz
 have HZS:=Jh hza
 clear hgx hgz hza
 generalize (w.alloc (.cells #[.int .i64 m.gen,.int .i64 m.cut,.int .i64 m.fence,.slice p.AE m.E.length p.cE,.slice p.AM m.M.length p.cM,.slice p.AO m.O.length p.cO] 53)).alloc (.cells #[.int .i64 0,.int .i64 0,.int .i64 0,.slice none 0 0,.slice none 0 0,.slice none 0 0] 53)=wa at *
 have HBk:=Jh hbk
 have HBa:=Jh hba
 clear hbk hba
 have Hc:Hid (∀ W,Below wa.heap.size wa W→W.cell? ⟨gx,3,none⟩=some (.slice p.AE m.E.length p.cE)∧W.cell? ⟨gx,4,none⟩=some (.slice p.AM m.M.length p.cM)∧W.cell? ⟨gx,5,none⟩=some (.slice p.AO m.O.length p.cO)):=Jh fun W hW=>by
  have h9:=HBk.out.below hW HBk.out.lt
  exact ⟨h9.cell 3,h9.cell 4,h9.cell 5⟩
 have HEa:Hid (∀ W,Below wa.heap.size wa W→Man W B m p):=Jh fun W hW=>HE.out.below ((HBa.out.trans (hW.mono HBa.out.size)).mono hB)
 have HC1:=Jh fun W (hW:Below wa.heap.size wa W)=>cloneE_calls W (c:=p.cE) (HEa.out W hW).re (by have:=hW.size;have:=HBa.out.size;omega) (by omega)
 have HC2:=Jh fun W (hW:Below wa.heap.size wa W)=>cloneM_calls W (c:=p.cM) (HEa.out W hW).rm (by have:=hW.size;have:=HBa.out.size;omega) (by omega)
 have HC3:=Jh fun W (hW:Below wa.heap.size wa W)=>cloneO_calls W (c:=p.cO) (HEa.out W hW).ro (by have:=hW.size;have:=HBa.out.size;omega) (by omega)
 have HW0:Hid (Below wa.heap.size wa wa.drew):=Jh (below_drewN_ (Below.refl _ _) 1)
 refine wp_region_C (fun i=>i == 10||i == 11||i == 12||i == 13||i == 14) (fun w'=>w'.cell? ⟨gx,3,none⟩=some (.slice p.AE m.E.length p.cE)∧w'.cell? ⟨gx,4,none⟩=some (.slice p.AM m.M.length p.cM)∧w'.cell? ⟨gx,5,none⟩=some (.slice p.AO m.O.length p.cO)) (by kernel_rfl) (Hc.out _ HW0.out) (fun hHeld=>?_)
 generalize wa.drew=u0 at *
 apply tkC 0
 apply tkC 1
 apply tkC 3
 apply tkC 4
 apply tkC 6
 apply tkC 7
 refine wpAnyC_one (i:=2) (by kernel_rfl) rfl (fun K hK=>?_);go_simp
 refine (HC1.out u0 HW0.out).mono ?_
 rintro en u1 ⟨A1,c1,rfl,ho1,hb1⟩
 have HB1:=Jh (HW0.out.trans (hb1.mono HW0.out.size))
 have hS1:=Hc.out _ HB1.out
 refine hK.out _ _ (fun _=>hS1) ?_
 have HO1:=Jh ho1
 clear hK K hHeld hb1 ho1
 (try simp only [Act.put,Jk,Jg,Ji,Jd,Je,Jf])
 apply tkC 9
 refine wpAnyC_one (i:=5) (by kernel_rfl) rfl (fun K hK=>?_);go_simp
 refine (HC2.out u1 HB1.out).mono ?_
 rintro en u2 ⟨A2,c2,rfl,ho2,hb2⟩
 have HB2:=Jh (HB1.out.trans (hb2.mono HB1.out.size))
 have hS2:=Hc.out _ HB2.out
 refine hK.out _ _ (fun _=>hS2) ?_
 have HO2:=Jh ho2
 have HO12:=Jh (own_below HO1.out hb2)
 have hsz1:=HB1.out.size
 clear hK K hS1 hb2 ho2 HB1 HO1
 (try simp only [Act.put,Jk,Jg,Ji,Jd,Je,Jf])
 refine wpAnyC_one (i:=8) (by kernel_rfl) rfl (fun K hK=>?_);go_simp
 refine (HC3.out u2 HB2.out).mono ?_
 rintro en u3 ⟨A3,c3,rfl,ho3,hb3⟩
 have HB3:=Jh (HB2.out.trans (hb3.mono HB2.out.size))
 have hS3:=Hc.out _ HB3.out
 refine hK.out _ _ (fun _=>hS3) ?_
 have HO3:=Jh ho3
 have HO13:=Jh (own_below HO12.out hb3)
 have HO23:=Jh (own_below HO2.out hb3)
 have hsz2:=HB2.out.size
 clear hK K hS2 hb3 ho3 HB2 HO12 HO2
 (try simp only [Act.put,Jk,Jg,Ji,Jd,Je,Jf])
 have HBk3:=Jh (HBk.out.below HB3.out HBk.out.lt)
 have HBz3:=Jh (HZa.out.below HB3.out HZa.out.lt)
 have HB03:Hid (Below w.heap.size w u3):=Jh (HBa.out.trans (HB3.out.mono HBa.out.size))
 have f0:=HBk3.out.frozen 3
 have f1:=HBk3.out.frozen 4
 have f2:=HBk3.out.frozen 5
 clear HC1 HC2 HC3 HEa Hc HB3
 have b1:=HBk3.out.set_ 3 (.slice A1 m.E.length c1)
 have b2:=b1.set_ 4 (.slice A2 m.M.length c2)
 have b3:=b2.set_ 5 (.slice A3 m.O.length c3)
 simp only [Jd,Je,Jf] at b1 b2 b3
 have g1:=b1.frozen 4
 have g2:=b2.frozen 5
 have HBy:=Jh b3
 have HBl:Hid (Below w.heap.size w (((u3.setCell ⟨gx,3,none⟩ (.slice A1 m.E.length c1)).setCell ⟨gx,4,none⟩ (.slice A2 m.M.length c2)).setCell ⟨gx,5,none⟩ (.slice A3 m.O.length c3))):=Jh (((HB03.out.setCell (p:=⟨gx,3,none⟩) (show w.heap.size≤gx by have:=HGX.out;omega) _).setCell (p:=⟨gx,4,none⟩) (show w.heap.size≤gx by have:=HGX.out;omega) _).setCell (p:=⟨gx,5,none⟩) (show w.heap.size≤gx by have:=HGX.out;omega) _)
 clear b1 b2 b3
 have HON:Hid (Only gx u3 (((u3.setCell ⟨gx,3,none⟩ (.slice A1 m.E.length c1)).setCell ⟨gx,4,none⟩ (.slice A2 m.M.length c2)).setCell ⟨gx,5,none⟩ (.slice A3 m.O.length c3))):=Jh ((((Only.refl gx u3).setCell (.inl rfl) _).setCell (.inl rfl) _).setCell (.inl rfl) _)
 have HEd:Hid (Mow (((u3.setCell ⟨gx,3,none⟩ (.slice A1 m.E.length c1)).setCell ⟨gx,4,none⟩ (.slice A2 m.M.length c2)).setCell ⟨gx,5,none⟩ (.slice A3 m.O.length c3)) (w.heap.size+1+1) m ⟨A1,c1,A2,c2,A3,c3⟩):=Jh (by
  have hw0:=HW0.out.size
  have hwa:=HZS.out
  exact (Mow.only_ (⟨own_mono HO13.out (by omega),own_mono HO23.out (by omega),own_mono HO3.out (by omega)⟩:Mow u3 (w.heap.size+1+1) m ⟨A1,c1,A2,c2,A3,c3⟩) HON.out (by have:=HGX.out;omega)))
 have HBz:=Jh (HON.out.blk HBz3.out (show gz≠gx by have:=HGX.out;have:=HGZ.out;omega))
 refine wpAnyC_one (i:=10) (by kernel_rfl) rfl (fun K hK=>?_);go_simp
 refine hK.out _ _ (fun h=>by cases h) ?_
 clear hK K
 (try simp only [Act.put,Jk,Jg,Ji,Jd,Je,Jf])
 refine wpAnyC_one (i:=11) (by kernel_rfl) rfl (fun K hK=>?_);go_simp
 refine hK.out _ _ (fun h=>by cases h) ?_
 clear hK K
 (try simp only [Act.put,Jk,Jg,Ji,Jd,Je,Jf])
 refine wpAnyC_one (i:=12) (by kernel_rfl) rfl (fun K hK=>?_);go_simp
 refine hK.out _ _ (fun h=>by cases h) ?_
 clear hK K
 (try simp only [Act.put,Jk,Jg,Ji,Jd,Je,Jf])
 refine wpAnyC_one (i:=13) (by kernel_rfl) rfl (fun K hK=>?_);go_simp
 refine hK.out _ _ (fun h=>by cases h) ?_
 clear hK K
 (try simp only [Act.put,Jk,Jg,Ji,Jd,Je,Jf])
 refine wpAnyC_one (i:=14) (by kernel_rfl) rfl (fun K hK=>?_);go_simp
 refine hK.out _ _ (fun h=>by cases h) (wpAnyC_done (by kernel_rfl) ?_ _)
 clear hK K HBz3 HBk3 HON
 generalize ((u3.setCell ⟨gx,3,none⟩ (.slice A1 m.E.length c1)).setCell ⟨gx,4,none⟩ (.slice A2 m.M.length c2)).setCell ⟨gx,5,none⟩ (.slice A3 m.O.length c3)=u4 at *
 obtain ⟨z0,z1,z2,z3,z4,z5⟩:u4.cell? ⟨gx,0,none⟩=some (.int .i64 m.gen)∧u4.cell? ⟨gx,1,none⟩=some (.int .i64 m.cut)∧u4.cell? ⟨gx,2,none⟩=some (.int .i64 m.fence)∧u4.cell? ⟨gx,3,none⟩=some (.slice A1 m.E.length c1)∧u4.cell? ⟨gx,4,none⟩=some (.slice A2 m.M.length c2)∧u4.cell? ⟨gx,5,none⟩=some (.slice A3 m.O.length c3):=⟨HBy.out.cell 0,HBy.out.cell 1,HBy.out.cell 2,HBy.out.cell 3,HBy.out.cell 4,HBy.out.cell 5⟩
 obtain ⟨y0,y1,y2,y3,y4,y5⟩:u4.cell? ⟨gz,0,none⟩=some (.int .i64 0)∧u4.cell? ⟨gz,1,none⟩=some (.int .i64 0)∧u4.cell? ⟨gz,2,none⟩=some (.int .i64 0)∧u4.cell? ⟨gz,3,none⟩=some (.slice none 0 0)∧u4.cell? ⟨gz,4,none⟩=some (.slice none 0 0)∧u4.cell? ⟨gz,5,none⟩=some (.slice none 0 0):=⟨HBz.out.cell 0,HBz.out.cell 1,HBz.out.cell 2,HBz.out.cell 3,HBz.out.cell 4,HBz.out.cell 5⟩
 have k0:=HBz.out.frozen 0
 have k1:=HBz.out.frozen 1
 have k2:=HBz.out.frozen 2
 have k3:=HBz.out.frozen 3
 have k4:=HBz.out.frozen 4
 have k5:=HBz.out.frozen 5
 clear f0 f1 f2 g1 g2
 go_wp2
 have hO4:=set6_only (Only.refl gz u4) (.int .i64 m.gen) (.int .i64 m.cut) (.int .i64 m.fence) (.slice A1 m.E.length c1) (.slice A2 m.M.length c2) (.slice A3 m.O.length c3)
 have hB4:=set6_blk HBz.out (.int .i64 m.gen) (.int .i64 m.cut) (.int .i64 m.fence) (.slice A1 m.E.length c1) (.slice A2 m.M.length c2) (.slice A3 m.O.length c3)
 have hgz:=HGZ.out
 refine bodyPost_ret (results_cell_row rfl _ _ gz 53 #[.int .i64 m.gen,.int .i64 m.cut,.int .i64 m.fence,.slice A1 m.E.length c1,.slice A2 m.M.length c2,.slice A3 m.O.length c3] (0,0) _ rfl hB4 Tryz.underlying53 rfl (by kernel_rfl)) rfl ?_
 exact ⟨⟨A1,c1,A2,c2,A3,c3⟩,rfl,(HEd.out.only_ hO4 (by omega)).mono (by omega),set6_below HBl.out (by omega) (.int .i64 m.gen) (.int .i64 m.cut) (.int .i64 m.fence) (.slice A1 m.E.length c1) (.slice A2 m.M.length c2) (.slice A3 m.O.length c3)⟩
set_option maxRecDepth 100000 in
set_option maxHeartbeats 3200000 in
theorem manP_calls (w:World) {base g:Nat} {s:Cst} {q:Pd} {pr pn:Pl} (h:CmAt w base g s q pr pn) (hg:Gd s.read) :
  Calls Tryz.prog 15 #[.pointer (some ⟨g,0,none⟩)] w fun e w'=>∃ pz,e=.returned (mdV s.read pz)∧Mow w' w.heap.size s.read pz∧Below w.heap.size w w':=by
 have hw1:Below w.heap.size w (w.alloc (.cells #[.int .i64 0,.int .i64 0,.int .i64 0,.slice none 0 0,.slice none 0 0,.slice none 0 0] 53)):=(Below.refl _ _).alloc (Nat.le_refl _) _
 have h1:=h.below hw1
 have hl:=hg.e
 have hl2:=hg.m_
 have hl3:=hg.o
 have HT:=Jh (twinC_calls (w.alloc (.cells #[.int .i64 0,.int .i64 0,.int .i64 0,.slice none 0 0,.slice none 0 0,.slice none 0 0] 53)) (h1.rd.good hg) (Nat.le_refl _) ⟨by omega,by omega,by omega⟩)
 obtain ⟨AE,cE,AM,cM,AO,cO⟩:=pr
 have hb:=h1.blk
 have z0:=hb.cell 15
 have z1:=hb.cell 16
 have z2:=hb.cell 17
 have z3:=hb.cell 18
 have z4:=hb.cell 19
 have z5:=hb.cell 20
 simp only [Ja,Jb,Jc] at z0 z1 z2 z3 z4 z5
 have HW1:=Jh hw1
 have HBz:=Jh (Blk.new w 53 #[.int .i64 0,.int .i64 0,.int .i64 0,.slice none 0 0,.slice none 0 0,.slice none 0 0])
 have hz:w.heap.size<(w.alloc (.cells #[.int .i64 0,.int .i64 0,.int .i64 0,.slice none 0 0,.slice none 0 0,.slice none 0 0] 53)).heap.size:=by simp
 clear h h1 hb hw1 hl hl2 hl3
 go_enter Tryz.func15,Tryz.ntmps15
 go_wp2_with fail
 refine HT.out.mono ?_
 rintro e w2 ⟨pz,rfl,hmo,hb2⟩
 obtain ⟨ZE,zE,ZM,zM,ZO,zO⟩:=pz
 have HB2:=Jh (HBz.out.below hb2 hz)
 have HW2:=Jh (HW1.out.trans (hb2.mono HW1.out.size))
 have HM:=Jh (hmo.mono (show w.heap.size+1≤_ by simp))
 obtain ⟨y0,y1,y2,y3,y4,y5⟩:w2.cell? ⟨w.heap.size,0,none⟩=some (.int .i64 0)∧w2.cell? ⟨w.heap.size,1,none⟩=some (.int .i64 0)∧w2.cell? ⟨w.heap.size,2,none⟩=some (.int .i64 0)∧w2.cell? ⟨w.heap.size,3,none⟩=some (.slice none 0 0)∧w2.cell? ⟨w.heap.size,4,none⟩=some (.slice none 0 0)∧w2.cell? ⟨w.heap.size,5,none⟩=some (.slice none 0 0):=⟨HB2.out.cell 0,HB2.out.cell 1,HB2.out.cell 2,HB2.out.cell 3,HB2.out.cell 4,HB2.out.cell 5⟩
 have k0:=HB2.out.frozen 0
 have k1:=HB2.out.frozen 1
 have k2:=HB2.out.frozen 2
 have k3:=HB2.out.frozen 3
 have k4:=HB2.out.frozen 4
 have k5:=HB2.out.frozen 5
 clear hmo hb2 HT HBz HW1 z0 z1 z2 z3 z4 z5 hz
 go_wp2
 have hO4:=set6_only (Only.refl w.heap.size w2) (.int .i64 s.read.gen) (.int .i64 s.read.cut) (.int .i64 s.read.fence) (.slice ZE s.read.E.length zE) (.slice ZM s.read.M.length zM) (.slice ZO s.read.O.length zO)
 have hB4:=set6_blk HB2.out (.int .i64 s.read.gen) (.int .i64 s.read.cut) (.int .i64 s.read.fence) (.slice ZE s.read.E.length zE) (.slice ZM s.read.M.length zM) (.slice ZO s.read.O.length zO)
 refine bodyPost_ret (results_cell_row rfl _ _ w.heap.size 53 #[.int .i64 s.read.gen,.int .i64 s.read.cut,.int .i64 s.read.fence,.slice ZE s.read.E.length zE,.slice ZM s.read.M.length zM,.slice ZO s.read.O.length zO] (0,0) _ rfl hB4 Tryz.underlying53 rfl (by kernel_rfl)) rfl ?_
 exact ⟨⟨ZE,zE,ZM,zM,ZO,zO⟩,rfl,(HM.out.only_ hO4 (by omega)).mono (by omega),set6_below HW2.out (by omega) (.int .i64 s.read.gen) (.int .i64 s.read.cut) (.int .i64 s.read.fence) (.slice ZE s.read.E.length zE) (.slice ZM s.read.M.length zM) (.slice ZO s.read.O.length zO)⟩
theorem sw_did {M:Md} {o:Ed} {y:Ow} (hne:o.by_.agent≠y.agent):(swM M o).O.any (didB y)=M.O.any (didB y):=by
 unfold swM
 by_cases h:appE M o=0
 ·rw [if_pos h,appM_ok h]
  have hF:=(appE_zero.1 h).1.f
  show (putL Ow.agent o.by_ M.O).any (didB y)=M.O.any (didB y)
  rw [Bool.eq_iff_iff,List.any_eq_true,List.any_eq_true]
  constructor
  ·rintro ⟨z,hz,hd⟩
   rcases (putL_mem hF.r.srtO).1 hz with rfl|⟨h1,_⟩
   ·unfold didB at hd
    simp only [Bool.and_eq_true,decide_eq_true_eq] at hd
    exact absurd hd.1.1 hne
   ·exact ⟨z,h1,hd⟩
  ·rintro ⟨z,hz,hd⟩
   refine ⟨z,(putL_mem hF.r.srtO).2 (.inr ⟨hz,fun e=>?_⟩),hd⟩
   unfold didB at hd
   simp only [Bool.and_eq_true,decide_eq_true_eq] at hd
   exact hne (by rw [← e];exact hd.1.1)
 ·rw [if_neg h]
theorem own_did {M:Md} {d:Ed} (h:appE M d=0):(appM M d).O.any (didB d.by_)=true:=by
 rw [appM_ok h]
 exact rise_did (appE_zero.1 h).1.f
theorem app_gen {M:Md} {d:Ed} (h:appE M d=0):(appM M d).gen=M.gen+1:=by rw [appM_ok h];rfl
theorem take_get {s:Cst} (ha:s.asked=true) (hw:s.writes=false) {M:Md} {V err now:Int} {d:List UInt8} (h:(V=0∧err=7∧M=zeroM)∨(1≤V∧err=0∧d=encB M∧decB d=(M,0))) :
  takeT takeS s err d V now=sawS { s with asked:=false,writes:=false } M V:=by
 unfold takeT
 rw [if_pos ha]
 unfold takeS
 rcases h with ⟨rfl,rfl,rfl⟩|⟨_,rfl,_,h⟩
 ·rw [if_neg (by omega),if_neg (by rw [hw];decide),if_pos rfl]
 ·rw [if_neg (by omega),if_neg (by rw [hw];decide),if_neg (by omega),if_neg (by omega),h,if_neg (by simp)]
theorem take_made {s:Cst} (ha:s.asked=true) (hw:s.writes=true) {d:List UInt8} {ver now:Int}:takeT takeS s 0 d ver now={ s with asked:=false,writes:=false,read:=s.next,st:=1,er:=0 }:=by
 unfold takeT
 rw [if_pos ha]
 unfold takeS
 rw [if_neg (by omega),if_pos hw,if_pos rfl]
theorem take_old {s:Cst} (ha:s.asked=true) (hw:s.writes=true) {d:List UInt8} {ver now:Int}:takeT takeS s 8 d ver now={ s with asked:=false,writes:=false }:=by
 unfold takeT
 rw [if_pos ha]
 unfold takeS
 rw [if_neg (by omega),if_pos hw,if_neg (by omega),if_pos rfl]
theorem take_lost {s:Cst} (ha:s.asked=true) {err:Int} (he:err=10∨err=9) {d:List UInt8} {ver now:Int}:takeT takeS s err d ver now={ s with asked:=false,writes:=false,fails:=s.fails+1,due:=now+s.wait*2 ^ s.fails,st:=if s.tries≤(s.fails:Int)+1 then 3 else s.st,er:=if s.tries≤(s.fails:Int)+1 then 15 else s.er }:=by
 unfold takeT
 rw [if_pos ha]
 unfold takeS
 rw [if_pos he]
section
variable {w w':World} {base gs:Nat} {M:Md} {p:Pl} {d:Ed} {q:Pd} {s:Cst} {g:Nat} {pr pn:Pl}
theorem Mow.kt (h:Mow w base M p) (k:KT w w'):Mow w' base M p:=⟨k.row h.oe (by decide) (by decide),k.row h.om (by decide) (by decide),k.row h.oo (by decide) (by decide)⟩
theorem Edo.kt (h:Edo w base d q) (k:KT w w'):Edo w' base d q:=⟨k.row h.oa (by decide) (by decide),k.row h.od (by decide) (by decide),k.row h.om (by decide) (by decide)⟩
theorem CmAt.kt (h:CmAt w base g s q pr pn) (k:KT w w'):CmAt w' base g s q pr pn:=⟨h.low,k.blk_ h.blk (by decide) (by decide),h.ed.kt k,h.rd.kt k,h.nx.kt k⟩
end
section
variable {w w':World} {base gs:Nat} {M:Md} {V now:Int}
theorem StM.now_ (h:StM w base gs M V now):w.cell? ⟨gs,4,none⟩=some (.int .i64 now)∧w.frozen? ⟨gs,4,none⟩=false∧∃ cs,Blk w gs 72 cs:=by
 rcases h with ⟨_,_,h⟩|⟨_,_,_,go,cO,x,h,_⟩
 ·exact ⟨h.blk.cell 4,h.blk.frozen 4,_,h.blk⟩
 ·exact ⟨h.blk.cell 4,h.blk.frozen 4,_,h.blk⟩
theorem StM.tick (h:StM w base gs M V now) (n:Int):StM (w.setCell ⟨gs,4,none⟩ (.int .i64 n)) base gs M V n:=by
 have ho:Only gs w (w.setCell ⟨gs,4,none⟩ (.int .i64 n)):=(Only.refl gs w).setCell (.inl rfl) _
 rcases h with ⟨h1,h2,h⟩|⟨h1,h2,h3,go,cO,x,h,h4⟩
 ·have hb:=h.blk.set_ 4 (.int .i64 n)
  simp only [Jd,Je,Jf] at hb
  exact .inl ⟨h1,h2,h.low,hb⟩
 ·have hb:=h.blk.set_ 4 (.int .i64 n)
  simp only [Jd,Je,Jf] at hb
  exact .inr ⟨h1,h2,h3,go,cO,x,⟨h.low,hb,own_free h.row ho h.blk (by decide),own_free h.dat ho h.blk (by decide),h.sz⟩,h4⟩
set_option maxRecDepth 100000 in
theorem tickC (w:World) (h:StM w base gs M V now) (h0:0≤now) (h9:now≤100000) (hbw:base≤w.heap.size) :
  Calls Tryz.prog 21 #[.pointer (some ⟨gs,0,none⟩),.int .i64 1] w fun e w'=>e=.returned (.int .i64 0)∧StM w' base gs M V (now+1)∧KT w w'∧Below base w w':=by
 obtain ⟨z4,f4,cs,hb⟩:=h.now_
 have HT:=Jh (h.tick (now+1))
 have ho:Only gs w (w.setCell ⟨gs,4,none⟩ (.int .i64 (now+1))):=(Only.refl gs w).setCell (.inl rfl) _
 have HK:=Jh (KT.only ho hb (.inl rfl))
 have HB:=Jh (ho.below h.low.1 hbw)
 have i1:IntKind.i64.wrap (1099511627775-now)=1099511627775-now:=by rw [IntKind.wrap_i64];omega
 have i2:IntKind.i64.wrap (now+1)=now+1:=by rw [IntKind.wrap_i64];omega
 have d1:decide (1099511627775-now<1)=false:=dcf (by omega)
 clear h ho hb
 go_enter Tryz.func21,Tryz.ntmps21
 go_wp2
 go_ret
 exact ⟨rfl,HT.out,HK.out,HB.out⟩
end
theorem Cin.ask {s:Cst} (h:Cin s) (h0:s.st=0):Cin { s with asked:=true }:=⟨⟨h.g.ge,h.g.read,h.g.next,h.g.tries,h.g.wait,h.g.fails,fun _=>h0,h.g.er⟩,h.right⟩
structure Onc (d:Ed) (s:Cst) (M:Md) (V made mine:Int):Prop where
 d_:s.d=d
 cin:Cin s
 wait:s.wait≤3
 gen:M.gen=made+mine
 ver:V=made+mine
 md:0≤made
 mn:(mine=0∧M.O.any (didB d.by_)=false)∨(mine=1∧M.O.any (didB d.by_)=true)
 wr:s.writes=true→mine=0∧0≤s.ver∧s.ver≤V∧s.next.O.any (didB d.by_)=true∧(s.ver=V→appE M d=0∧s.next=appM M d)
 st:s.st=0∨(s.st=1∧mine=1∧s.er=0∧s.read.O.any (didB d.by_)=true)∨(s.st=2∧mine=0∧s.er≠0)∨(s.st=3∧s.er=15)
def stage (s:Cst) (V:Int):Int:=if s.writes=true then (if s.ver=V then 1 else 3) else 2
def wt (s:Cst) (now:Int):Int:=(if now<s.due then s.due-now else 0)+3*(128-2 ^ s.fails)
def pot (n:Nat) (s:Cst) (V now:Int):Int:=wt s now+4*(n:Int)+stage s V
theorem stage_in (s:Cst) (V:Int):1≤stage s V∧stage s V≤3:=by
 unfold stage
 split
 ·split<;>omega
 ·omega
section
variable {d o:Ed} {s:Cst} {M:Md} {V now made mine:Int}
theorem Onc.ask (h:Onc d s M V made mine) (h0:s.st=0):Onc d { s with asked:=true } M V made mine:=⟨h.d_,h.cin.ask h0,h.wait,h.gen,h.ver,h.md,h.mn,h.wr,h.st⟩
theorem Onc.swap (h:Onc d s M V made mine) (hne:o.by_.agent≠d.by_.agent) (b:Bool) (ht:b=true→appE M o=0) (hf:b=false→appE M o≠0) :
  Onc d s (swM M o) (if b=true then V+1 else V) (if b=true then made+1 else made) mine:=by
 cases b
 ·have e:swM M o=M:=if_neg (hf rfl)
  rw [e]
  exact h
 ·have h0:=ht rfl
  have hd:=sw_did (M:=M) hne
  have e:swM M o=appM M o:=if_pos h0
  have hv:=h.ver
  have hg:=h.gen
  have hm:=h.md
  refine ⟨h.d_,h.cin,h.wait,?_,?_,?_,?_,fun hw=>?_,h.st⟩
  ·rw [e,app_gen h0];simp only [if_true];omega
  ·simp only [if_true];omega
  ·simp only [if_true];omega
  ·rw [hd];exact h.mn
  ·obtain ⟨h1,h2,h3,h4,_⟩:=h.wr hw
   refine ⟨h1,h2,?_,h4,fun he=>?_⟩
   ·simp only [if_true];omega
   ·simp only [if_true] at he;omega
theorem pow_pos8 {n:Nat} (h:n≤7):(1:Int)≤2 ^ n∧(2:Int) ^ n≤128:=by
 rcases n with _|_|_|_|_|_|_|_|n
 all_goals first|decide|omega
theorem Onc.lost (h:Onc d s M V made mine) (ha:s.asked=true) {err:Int} (he:err=10∨err=9) (data:List UInt8) (ver now:Int) :
  Onc d (takeT takeS s err data ver now) M V made mine∧((takeT takeS s err data ver now).st=0→wt (takeT takeS s err data ver now) now≤wt s now∧stage (takeT takeS s err data ver now) V=2)∧(takeT takeS s err data ver now).asked=false:=by
 have hc:takeT takeS s err data ver now=takeS s err data ver now:=if_pos ha
 have hci:=h.cin.take ha err data ver now
 rw [← hc] at hci
 rw [take_lost ha he] at hci ⊢
 have h0:=h.cin.g.asked ha
 have hf:=h.cin.g.fails h0
 have ht:=h.cin.g.tries
 have hw0:=h.cin.g.wait
 have hw3:=h.wait
 refine ⟨⟨h.d_,hci,h.wait,h.gen,h.ver,h.md,h.mn,fun h=>(by cases h),?_⟩,fun hs=>⟨?_,rfl⟩,rfl⟩
 ·dsimp only
  by_cases hl:s.tries≤(s.fails:Int)+1
  ·rw [if_pos hl,if_pos hl];exact .inr (.inr (.inr ⟨rfl,rfl⟩))
  ·rw [if_neg hl,if_neg hl];exact .inl h0
 ·unfold wt
  dsimp only
  have hp:=pow_pos8 (n:=s.fails) (by omega)
  have hmul:s.wait*2 ^ s.fails≤3*2 ^ s.fails:=Int.mul_le_mul_of_nonneg_right hw3 (by omega)
  have hnn:0≤s.wait*2 ^ s.fails:=Int.mul_nonneg hw0.1 (by omega)
  rw [Int.pow_succ]
  generalize s.wait*2 ^ s.fails=q at *
  generalize (2:Int) ^ s.fails=p at *
  split<;>split<;>omega
theorem wt_same {s':Cst} (h1:s'.due=s.due) (h2:s'.fails=s.fails):wt s' now=wt s now:=by unfold wt;rw [h1,h2]
theorem Onc.saw (h:Onc d s M V made mine) (ha:s.asked=true) (hw:s.writes=false) (hM:Gd M) (hV:0≤V) (now:Int) :
  Onc d (sawS { s with asked:=false,writes:=false } M V) M V made mine∧((sawS { s with asked:=false,writes:=false } M V).st=0→wt (sawS { s with asked:=false,writes:=false } M V) now≤wt s now∧stage (sawS { s with asked:=false,writes:=false } M V) V=1)∧(sawS { s with asked:=false,writes:=false } M V).asked=false:=by
 have h0:=h.cin.g.asked ha
 have hB:Cin { s with asked:=false,writes:=false }:=⟨⟨h.cin.g.ge,h.cin.g.read,h.cin.g.next,h.cin.g.tries,h.cin.g.wait,h.cin.g.fails,fun h=>(by cases h),h.cin.g.er⟩,fun h=>(by cases h)⟩
 have hci:=hB.saw h0 rfl rfl hM V
 have hd:=h.d_
 unfold sawS at hci ⊢
 dsimp only at hci ⊢
 rw [hd] at hci ⊢
 by_cases h1:M.O.any (didB d.by_)=true
 ·rw [if_pos h1] at hci ⊢
  have hm:mine=1:=by
   rcases h.mn with ⟨_,h2⟩|⟨h2,_⟩
   ·rw [h2] at h1;cases h1
   ·exact h2
  exact ⟨⟨rfl,hci,h.wait,h.gen,h.ver,h.md,h.mn,fun h=>(by cases h),.inr (.inl ⟨rfl,hm,rfl,h1⟩)⟩,fun h=>absurd h (by simp),rfl⟩
 ·rw [if_neg h1] at hci ⊢
  have hm:mine=0:=by
   rcases h.mn with ⟨h2,_⟩|⟨_,h2⟩
   ·exact h2
   ·exact absurd h2 h1
  by_cases h2:appE M d≠0
  ·rw [if_pos h2] at hci ⊢
   exact ⟨⟨rfl,hci,h.wait,h.gen,h.ver,h.md,h.mn,fun h=>(by cases h),.inr (.inr (.inl ⟨rfl,hm,h2⟩))⟩,fun h=>absurd h (by simp),rfl⟩
  ·rw [if_neg h2] at hci ⊢
   have h3:appE M d=0:=Classical.byContradiction fun h=>h2 h
   refine ⟨⟨rfl,hci,h.wait,h.gen,h.ver,h.md,h.mn,fun _=>⟨hm,hV,Int.le_refl _,own_did h3,fun _=>⟨h3,rfl⟩⟩,.inl h0⟩,fun _=>⟨Int.le_of_eq (wt_same rfl rfl),?_⟩,rfl⟩
   unfold stage
   rw [if_pos rfl,if_pos rfl]
theorem Onc.put (h:Onc d s M V made mine) (hw:s.writes=true) (hv:s.ver=V):s.next.gen=made+1∧V+1=made+1∧s.next.O.any (didB d.by_)=true:=by
 obtain ⟨h1,_,_,h4,h5⟩:=h.wr hw
 obtain ⟨h6,h7⟩:=h5 hv
 have hg:=h.gen
 have hv2:=h.ver
 refine ⟨?_,by omega,h4⟩
 rw [h7,app_gen h6];omega
theorem Onc.told (h:Onc d s M V made mine) (ha:s.asked=true) (hw:s.writes=true) (hv:s.ver=V) (data:List UInt8) (ver now:Int) :
  Onc d (takeT takeS s 0 data ver now) s.next (V+1) made 1∧(takeT takeS s 0 data ver now).st≠0∧(takeT takeS s 0 data ver now).asked=false:=by
 have hc:takeT takeS s 0 data ver now=takeS s 0 data ver now:=if_pos ha
 have hci:=h.cin.take ha 0 data ver now
 rw [← hc] at hci
 rw [take_made ha hw] at hci ⊢
 obtain ⟨h1,h2,h3⟩:=h.put hw hv
 exact ⟨⟨h.d_,hci,h.wait,h1,h2,h.md,.inr ⟨rfl,h3⟩,fun h=>(by cases h),.inr (.inl ⟨rfl,rfl,rfl,h3⟩)⟩,by simp,rfl⟩
theorem Onc.mute (h:Onc d s M V made mine) (ha:s.asked=true) (hw:s.writes=true) (hv:s.ver=V) (data:List UInt8) (ver now:Int) :
  Onc d (takeT takeS s 10 data ver now) s.next (V+1) made 1∧((takeT takeS s 10 data ver now).st=0→wt (takeT takeS s 10 data ver now) now≤wt s now∧stage (takeT takeS s 10 data ver now) (V+1)=2)∧(takeT takeS s 10 data ver now).asked=false:=by
 obtain ⟨k1,k2,k3⟩:=h.lost ha (.inl rfl) data ver now
 obtain ⟨h1,h2,h3⟩:=h.put hw hv
 have hwf:(takeT takeS s 10 data ver now).writes=false:=by rw [take_lost ha (.inl rfl)]
 refine ⟨⟨k1.d_,k1.cin,k1.wait,h1,h2,h.md,.inr ⟨rfl,h3⟩,fun hh=>(by rw [hwf] at hh;cases hh),?_⟩,fun hs=>⟨(k2 hs).1,by unfold stage;rw [hwf];rfl⟩,k3⟩
 rcases k1.st with hs|⟨hs,hm,_⟩|⟨hs,_,hm⟩|hs
 ·exact .inl hs
 ·have h9:=(h.wr hw).1;omega
 ·exfalso
  rw [take_lost ha (.inl rfl)] at hs
  dsimp only at hs
  have h0:=h.cin.g.asked ha
  split at hs<;>omega
 ·exact .inr (.inr (.inr hs))
theorem Onc.old (h:Onc d s M V made mine) (ha:s.asked=true) (hw:s.writes=true) (data:List UInt8) (ver now:Int) :
  Onc d (takeT takeS s 8 data ver now) M V made mine∧(wt (takeT takeS s 8 data ver now) now≤wt s now∧stage (takeT takeS s 8 data ver now) V=2)∧(takeT takeS s 8 data ver now).asked=false:=by
 have hc:takeT takeS s 8 data ver now=takeS s 8 data ver now:=if_pos ha
 have hci:=h.cin.take ha 8 data ver now
 rw [← hc] at hci
 rw [take_old ha hw] at hci ⊢
 have h0:=h.cin.g.asked ha
 exact ⟨⟨h.d_,hci,h.wait,h.gen,h.ver,h.md,h.mn,fun h=>(by cases h),.inl h0⟩,⟨Int.le_of_eq (wt_same rfl rfl),rfl⟩,rfl⟩
end
theorem pot_eat {n n2:Nat} {s s':Cst} {V V' now:Int} (h:n2+1=n) (hw:wt s' now≤wt s now):wt s' now+4*(n2:Int)+stage s' V'+1≤pot n s V now:=by
 have h1:=stage_in s V
 have h2:=stage_in s' V'
 unfold pot
 omega
theorem pot_one {n n2:Nat} {s s':Cst} {V V' now:Int} (h:n2=n) (hs:stage s' V'+1≤stage s V) (hw:wt s' now≤wt s now):wt s' now+4*(n2:Int)+stage s' V'+1≤pot n s V now:=by
 unfold pot
 omega
theorem pot_tick {n:Nat} {s:Cst} {V now:Int} (h:now<s.due):pot n s V (now+1)+1=pot n s V now:=by
 unfold pot wt
 rw [if_pos h]
 split<;>omega
theorem pot_pos {n:Nat} {s:Cst} {V now:Int} (hf:s.fails≤7):0≤pot n s V now:=by
 have h1:=stage_in s V
 have h2:=pow_pos8 hf
 unfold pot wt
 split<;>omega
def Cdat (W:World) (s:Cst) (kd vv:Int) (A:Option Addr) (nn cc:Nat):Prop :=
 (kd=3∧s.writes=false∧A=none∧nn=0∧cc=0∧vv=0)∨(kd=2∧s.writes=true∧vv=s.ver∧(encB s.next).length=nn∧∃ b,W.ownsRow b 5 1 (.slice A nn cc) nn ((encB s.next).map byteV))
section
variable {w w':World} {base g gs:Nat} {s:Cst} {q:Pd} {pr pn:Pl} {M:Md} {V now kd vv:Int} {A:Option Addr} {nn cc:Nat}
theorem Cdat.below (h:Cdat w s kd vv A nn cc) (hb:Below w.heap.size w w'):Cdat w' s kd vv A nn cc:=by
 rcases h with h|⟨h1,h2,h3,h4,b,h5⟩
 ·exact .inl h
 ·exact .inr ⟨h1,h2,h3,h4,b,own_below h5 hb⟩
theorem Cdat.kt (h:Cdat w s kd vv A nn cc) (hk:KT w w'):Cdat w' s kd vv A nn cc:=by
 rcases h with h|⟨h1,h2,h3,h4,b,h5⟩
 ·exact .inl h
 ·exact .inr ⟨h1,h2,h3,h4,b,hk.row h5 (by decide) (by decide)⟩
theorem nextO (hb0:0<base) (w:World) (hm:Sh w) (h:CmAt w base g s q pr pn) (hi:Cin s) (now:Int) (hn:nextB s now=true) :
  Calls Tryz.prog 10 #[.pointer (some ⟨g,0,none⟩),.int .i64 now] w fun e w'=>∃ kd vv A nn cc,e=.returned (.tuple #[.agg (callC kd manK A nn cc vv),.bool true])∧Cdat w' s kd vv A nn cc∧CmAt w' base g { s with asked:=true } q pr pn∧Only g w w':=by
 by_cases hw:s.writes=true
 case neg =>
  have hw:s.writes=false:=by simpa using hw
  refine (next_get w h now hn hw).mono ?_
  rintro e w' ⟨rfl,hc,ho⟩
  exact ⟨3,0,none,0,0,rfl,.inl ⟨rfl,hw,rfl,rfl,rfl,rfl⟩,hc,ho⟩
 case pos =>
  have hr:=hi.right hw
  refine (next_put (enc:=encD) (er:=encEr) (fun w B m p h hB hs hm=>enc_calls w h hB hs hm) hb0 w h now hn hw hi.g.next hm).mono ?_
  rintro e w' ⟨A,c,rfl,hown,hc,ho⟩
  have he:encD s.next=encB s.next:=by unfold encD;rw [if_pos hr]
  rw [he] at hown ⊢
  exact ⟨2,s.ver,A,_,c,rfl,.inr ⟨rfl,hw,rfl,rfl,_,hown⟩,hc,ho⟩
def RetDo (w:World) (gs:Nat) (s:Cst) (M:Md) (V now kd:Int) (e:Ending) (w':World):Prop :=
 ∃ (err ver born:Int) (A:Option Addr) (c:Nat) (d:List UInt8),e=.returned (repV err A d.length c ver born)∧(∃ b,w'.ownsRow b 5 1 (.slice A d.length c) d.length (d.map byteV))∧d.length≤262144∧KT w w'∧Below gs w w' ∧
  ((kd=3∧s.writes=false∧StM w' gs gs M V now∧ver=V∧((V=0∧err=7∧M=zeroM)∨(1≤V∧err=0∧d=encB M∧decB d=(M,0))))∨(kd=2∧s.writes=true∧s.ver=V∧err=0∧StM w' gs gs s.next (V+1) now)∨(kd=2∧s.writes=true∧s.ver≠V∧err=8∧StM w' gs gs M V now))
theorem doO (w:World) (h:StM w gs gs M V now) (hc:Cdat w s kd vv A nn cc) (hi:Cin s) (hv:s.writes=true→0≤s.ver∧s.ver≤V) (hv1:V≤1000000) :
  Calls Tryz.prog 23 #[.pointer (some ⟨gs,0,none⟩),.agg (callC kd manK A nn cc vv)] w (RetDo w gs s M V now kd):=by
 have hgs:=h.low.2
 rcases hc with ⟨rfl,hw,rfl,rfl,rfl,rfl⟩|⟨rfl,hw,rfl,rfl,b,hown⟩
 ·refine (getC w h).mono ?_
  rintro e w' ⟨err,A,c,d,born,rfl,hown,hb,hl,hcase⟩
  exact ⟨err,V,born,A,c,d,rfl,⟨_,hown⟩,hl,KT.of_below hb,hb.mono (Nat.le_of_lt hgs),.inl ⟨rfl,hw,h.below hb,rfl,hcase⟩⟩
 ·by_cases he:s.ver=V
  ·refine (putC w h (A:=A) (c:=cc) (d:=encB s.next) rfl hown rfl (hi.right hw) hi.g.next s.ver he hv1 (Nat.le_of_lt hgs)).mono ?_
   rintro e w' ⟨rfl,hs,hk,hb⟩
   exact ⟨0,V+1,now,none,0,[],rfl,⟨0,World.ownsRow_nil _ _ _ _⟩,Nat.zero_le _,hk,hb,.inr (.inl ⟨rfl,hw,he,rfl,hs⟩)⟩
  ·refine (putvC w h A _ cc s.ver he (by have:=hv hw;omega)).mono ?_
   rintro e w' ⟨rfl,hb⟩
   exact ⟨8,0,0,none,0,[],rfl,⟨0,World.ownsRow_nil _ _ _ _⟩,Nat.zero_le _,KT.of_below hb,hb.mono (Nat.le_of_lt hgs),.inr (.inr ⟨rfl,hw,he,rfl,h.below hb⟩)⟩
def OnEnds (x:Ed) (n n2:Nat) (s0:Cst) (V0:Int) (s1:Cst) (err:Int) (d:List UInt8) (ver now:Int) (M:Md) (V made mine:Int):Prop :=
 Onc x (takeT takeS s1 err d ver now) M V made mine∧(takeT takeS s1 err d ver now).asked=false∧((takeT takeS s1 err d ver now).st=0→wt (takeT takeS s1 err d ver now) now+4*(n2:Int)+stage (takeT takeS s1 err d ver now) V+1≤pot n s0 V0 now)
end
section
variable {x:Ed} {n n2:Nat} {s:Cst} {M:Md} {V V0 now made mine err ver:Int} {d:List UInt8}
def Eats (n n2:Nat) (V0 V:Int) (fate:Int):Prop:=(n2=n∧V=V0∧fate=0)∨n2+1=n
theorem end_lost (h:Onc x { s with asked:=true } M V made mine) {fate:Int} (he:Eats n n2 V0 V fate) (hf:fate≠0) (hx:err=10∨err=9):OnEnds x n n2 s V0 { s with asked:=true } err d ver now M V made mine:=by
 obtain ⟨h1,h2,h3⟩:=h.lost rfl hx d ver now
 rcases he with ⟨_,_,h4⟩|h4
 ·exact absurd h4 hf
 ·exact ⟨h1,h3,fun h0=>pot_eat (s:=s) h4 (h2 h0).1⟩
theorem end_saw (h:Onc x { s with asked:=true } M V made mine) {fate:Int} (he:Eats n n2 V0 V fate) (hw:s.writes=false) (hM:Gd M) (hV:0≤V) (hc:(V=0∧err=7∧M=zeroM)∨(1≤V∧err=0∧d=encB M∧decB d=(M,0))):OnEnds x n n2 s V0 { s with asked:=true } err d V now M V made mine:=by
 have ht:=take_get (s:={ s with asked:=true }) (now:=now) rfl hw hc
 obtain ⟨h1,h2,h3⟩:=h.saw rfl hw hM hV now
 unfold OnEnds
 rw [ht]
 refine ⟨h1,h3,fun h0=>?_⟩
 obtain ⟨h4,h5⟩:=h2 h0
 rcases he with ⟨h6,h7,_⟩|h6
 ·refine pot_one (s:=s) h6 ?_ h4
  have h8:stage s V0=2:=by unfold stage;rw [hw];rfl
  rw [h8]
  exact Int.le_of_eq (by rw [h5];rfl)
 ·exact pot_eat (s:=s) h6 h4
theorem end_told (h:Onc x { s with asked:=true } M V made mine) (hw:s.writes=true) (hv:s.ver=V):OnEnds x n n2 s V0 { s with asked:=true } 0 d ver now s.next (V+1) made 1:=by
 obtain ⟨h1,h2,h3⟩:=h.told rfl hw hv d ver now
 exact ⟨h1,h3,fun h0=>absurd h0 h2⟩
theorem end_mute (h:Onc x { s with asked:=true } M V made mine) {fate:Int} (he:Eats n n2 V0 V fate) (hf:fate≠0) (hw:s.writes=true) (hv:s.ver=V):OnEnds x n n2 s V0 { s with asked:=true } 10 d ver now s.next (V+1) made 1:=by
 obtain ⟨h1,h2,h3⟩:=h.mute rfl hw hv d ver now
 rcases he with ⟨_,_,h4⟩|h4
 ·exact absurd h4 hf
 ·exact ⟨h1,h3,fun h0=>pot_eat (s:=s) h4 (h2 h0).1⟩
theorem end_old (h:Onc x { s with asked:=true } M V made mine) {fate:Int} (he:Eats n n2 V0 V fate) (hw:s.writes=true) (hv:s.ver≠V):OnEnds x n n2 s V0 { s with asked:=true } 8 d ver now M V made mine:=by
 obtain ⟨h1,⟨h2,h5⟩,h3⟩:=h.old rfl hw d ver now
 refine ⟨h1,h3,fun h0=>?_⟩
 rcases he with ⟨h6,h7,_⟩|h6
 ·refine pot_one (s:=s) h6 ?_ h2
  have h8:stage s V0=3:=by unfold stage;rw [if_pos hw,if_neg (by rw [← h7];exact hv)]
  rw [h8,h5]
  decide
 ·exact pot_eat (s:=s) h6 h2
end
end Go.Proofs.YtibnehaibgbliaaGreat.Mf
namespace Go.Proofs.YtibnehaibgbliaaGreat.Mf
open Go.RowKit Go.Proofs.YtibnehaibgbliaaGreat
open Go.ChangeShapes Go.WideShapes
theorem wf_u32 {x:Int} (h:(Lit.int .u32 x).wf=true):0≤x∧x≤4294967295:=by
 have h2:IntKind.u32.min=0:=rfl
 have h3:IntKind.u32.max=4294967295:=rfl
 simp only [Lit.wf,Bool.and_eq_true,decide_eq_true_eq,h2,h3] at h
 exact h
section
variable {H:Type} {enc:TypeId × Value→H} {W:World} {v:Value} {d:DataW H}
theorem part_ens (h:Part enc Tryz.prog W 22 v d) :
  ∃ (A:Option Addr) (c:Nat) (l:List En),v=.slice A l.length c∧l.length≤c∧l.length≤17592186044416∧Reads W W.heap.size 9 A l.length (l.flatMap En.cs)∧∀ x∈l,x.Ok:=by
 obtain ⟨A,c,l,e,hl,_,hby,hr,hg⟩:=h.flat Tryz.underlying22 Tryz.underlying85 (by kernel_rfl) (by kernel_rfl) (by decide) En.cs (fun _=>rfl) (fun x=>x.Ok) (fun us hu=>by
  obtain ⟨y0,t0⟩:=hu 0 _ rfl
  obtain ⟨y1,t1⟩:=hu 1 _ rfl
  obtain ⟨y2,t2⟩:=hu 2 _ rfl
  obtain ⟨y3,t3⟩:=hu 3 _ rfl
  obtain ⟨y4,t4⟩:=hu 4 _ rfl
  obtain ⟨y5,t5⟩:=hu 5 _ rfl
  obtain ⟨y6,t6⟩:=hu 6 _ rfl
  obtain ⟨y7,t7⟩:=hu 7 _ rfl
  obtain ⟨y8,t8⟩:=hu 8 _ rfl
  obtain ⟨x0,e0,s0⟩:=t0.str Tryz.underlying9
  obtain ⟨x1,e1,_⟩:=t1.int Tryz.underlying3
  obtain ⟨x2,e2,s2⟩:=t2.str Tryz.underlying9
  obtain ⟨x3,e3,_⟩:=t3.int Tryz.underlying3
  obtain ⟨x4,e4,_⟩:=t4.int Tryz.underlying3
  obtain ⟨x5,e5,_⟩:=t5.int Tryz.underlying3
  obtain ⟨x6,e6,_⟩:=t6.int Tryz.underlying3
  obtain ⟨x7,e7,s7⟩:=t7.int Tryz.underlying83
  obtain ⟨x8,e8,_⟩:=t8.int Tryz.underlying3
  refine ⟨⟨x0,x1,x2,x3,x4,x5,x6,x7,x8⟩,⟨s0,s2,wf_u32 s7⟩,fun j hj=>?_⟩
  have hj9:j<9:=hj
  have:j=0∨j=1∨j=2∨j=3∨j=4∨j=5∨j=6∨j=7∨j=8:=by omega
  rcases this with rfl|rfl|rfl|rfl|rfl|rfl|rfl|rfl|rfl
  ·rw [e0];rfl
  ·rw [e1];rfl
  ·rw [e2];rfl
  ·rw [e3];rfl
  ·rw [e4];rfl
  ·rw [e5];rfl
  ·rw [e6];rfl
  ·rw [e7];rfl
  ·rw [e8];rfl)
 have hbz:Tryz.prog.bytesOf 85=88:=by kernel_rfl
 rw [hbz] at hby
 exact ⟨A,c,l,e,hl,by omega,hr,hg⟩
theorem part_mks (h:Part enc Tryz.prog W 24 v d) :
  ∃ (A:Option Addr) (c:Nat) (l:List Mk),v=.slice A l.length c∧l.length≤c∧l.length≤17592186044416∧Reads W W.heap.size 2 A l.length (l.flatMap Mk.cs):=by
 obtain ⟨A,c,l,e,hl,_,hby,hr,hg⟩:=h.flat Tryz.underlying24 Tryz.underlying90 (by kernel_rfl) (by kernel_rfl) (by decide) Mk.cs (fun _=>rfl) (fun x=>True) (fun us hu=>by
  obtain ⟨y0,t0⟩:=hu 0 _ rfl
  obtain ⟨y1,t1⟩:=hu 1 _ rfl
  obtain ⟨x0,e0,_⟩:=t0.int Tryz.underlying3
  obtain ⟨x1,e1,_⟩:=t1.int Tryz.underlying3
  refine ⟨⟨x0,x1⟩,trivial,fun j hj=>?_⟩
  have hj9:j<2:=hj
  have:j=0∨j=1:=by omega
  rcases this with rfl|rfl
  ·rw [e0];rfl
  ·rw [e1];rfl)
 have hbz:Tryz.prog.bytesOf 90=16:=by kernel_rfl
 rw [hbz] at hby
 exact ⟨A,c,l,e,hl,by omega,hr⟩
theorem flat_str:∀ l:List ByteArray,(l.flatMap fun s=>[Value.string s])=l.map Value.string
 | []=>rfl
 | a::r=>by rw [List.flatMap_cons,List.map_cons,flat_str r];rfl
theorem part_strs (h:Part enc Tryz.prog W 23 v d) :
  ∃ (A:Option Addr) (c:Nat) (l:List ByteArray),v=.slice A l.length c∧l.length≤c∧l.length≤17592186044416∧Reads W W.heap.size 1 A l.length (l.map Value.string)∧∀ k∈l,k.size≤140737488351232:=by
 obtain ⟨A,c,l,e,hl,_,hby,hr,hg⟩:=h.rows Tryz.underlying23 (size:=1) (by kernel_rfl) (by decide) (fun s:ByteArray=>[Value.string s]) (fun s=>s.size≤140737488351232) (fun cs y hcs hp=>by
  match cs,hcs with
  | [c0],_ =>
   obtain ⟨s,rfl,hs⟩:=hp.one.str Tryz.underlying9
   exact ⟨s,hs,rfl⟩) (fun _=>rfl)
 have hbz:Tryz.prog.bytesOf 9=16:=by kernel_rfl
 rw [hbz] at hby
 rw [flat_str] at hr
 exact ⟨A,c,l,e,hl,by omega,hr,hg⟩
end
set_option maxRecDepth 100000 in
theorem arg_own {H:Type} {enc:TypeId × Value→H} {W:World} {v:Value} {d:DataW H} {cs:List Value} (hr:PartC enc Tryz.prog W 26 cs d):∃ y:Ow,cs=y.cs:=by
 have h7:cs.length=3:=(hr.len Tryz.underlying26).trans (by kernel_rfl)
 match cs,h7 with
 | [c0,c1,c2],_ =>
  obtain ⟨y0,h0⟩:=hr.fieldAt Tryz.underlying26 0 0 1 3 (by kernel_rfl)
  obtain ⟨y1,h1⟩:=hr.fieldAt Tryz.underlying26 1 1 1 3 (by kernel_rfl)
  obtain ⟨y2,h2⟩:=hr.fieldAt Tryz.underlying26 2 2 1 3 (by kernel_rfl)
  have h0:PartC enc Tryz.prog W 3 [c0] y0:=h0
  have h1:PartC enc Tryz.prog W 3 [c1] y1:=h1
  have h2:PartC enc Tryz.prog W 3 [c2] y2:=h2
  obtain ⟨a,rfl,_⟩:=h0.one.int Tryz.underlying3
  obtain ⟨b,rfl,_⟩:=h1.one.int Tryz.underlying3
  obtain ⟨c,rfl,_⟩:=h2.one.int Tryz.underlying3
  exact ⟨⟨a,b,c⟩,rfl⟩
set_option maxRecDepth 100000 in
theorem part_edit {H:Type} {enc:TypeId × Value→H} {W:World} {d:DataW H} {cs:List Value} (hr:PartC enc Tryz.prog W 28 cs d):∃ x q,cs=[.slice q.AA x.add.length q.cA,.slice q.AD x.drop.length q.cD,.slice q.AM x.marks.length q.cM,.int .i64 x.cut,.int .i64 x.fence,.int .i64 x.by_.agent,.int .i64 x.by_.life,.int .i64 x.by_.count]∧Edi W W.heap.size x q:=by
 have h7:cs.length=8:=(hr.len Tryz.underlying28).trans (by kernel_rfl)
 match cs,h7 with
 | [c0,c1,c2,c3,c4,c5,c6,c7],_ =>
  obtain ⟨y0,h0⟩:=hr.fieldAt Tryz.underlying28 0 0 1 22 (by kernel_rfl)
  obtain ⟨y1,h1⟩:=hr.fieldAt Tryz.underlying28 1 1 1 23 (by kernel_rfl)
  obtain ⟨y2,h2⟩:=hr.fieldAt Tryz.underlying28 2 2 1 24 (by kernel_rfl)
  obtain ⟨y3,h3⟩:=hr.fieldAt Tryz.underlying28 3 3 1 3 (by kernel_rfl)
  obtain ⟨y4,h4⟩:=hr.fieldAt Tryz.underlying28 4 4 1 3 (by kernel_rfl)
  obtain ⟨y5,h5⟩:=hr.fieldAt Tryz.underlying28 5 5 3 26 (by kernel_rfl)
  have h0:PartC enc Tryz.prog W 22 [c0] y0:=h0
  have h1:PartC enc Tryz.prog W 23 [c1] y1:=h1
  have h2:PartC enc Tryz.prog W 24 [c2] y2:=h2
  have h3:PartC enc Tryz.prog W 3 [c3] y3:=h3
  have h4:PartC enc Tryz.prog W 3 [c4] y4:=h4
  have h5:PartC enc Tryz.prog W 26 [c5,c6,c7] y5:=h5
  obtain ⟨AE,cE,E,rfl,k1,k2,k3,k4⟩:=part_ens h0.one
  obtain ⟨AD,cD,D,rfl,k5,k6,k7,k8⟩:=part_strs h1.one
  obtain ⟨AM,cM,M,rfl,k9,k10,k11⟩:=part_mks h2.one
  obtain ⟨cut,rfl,_⟩:=h3.one.int Tryz.underlying3
  obtain ⟨fence,rfl,_⟩:=h4.one.int Tryz.underlying3
  obtain ⟨y,hy⟩:=arg_own (v:=.bool true) h5
  injection hy with e1 hy
  injection hy with e2 hy
  injection hy with e3 _
  subst e1 e2 e3
  exact ⟨⟨E,D,M,cut,fence,y⟩,⟨AE,cE,AD,cD,AM,cM⟩,rfl,⟨k3,k7,k11,k2,k6,k10,k1,k5,k9,k4,k8⟩⟩
set_option maxRecDepth 100000 in
theorem arg_edit {H:Type} {enc:TypeId × Value→H} {W:World} {base:Nat} {v:Value} {d:DataW H} {p:List MemPlace} (h:Arg enc Tryz.prog W base 28 v d p):∃ x q,v=edV x q∧Edi W W.heap.size x q:=by
 obtain ⟨cs,rfl,hsz⟩:=okWide_struct Tryz.underlying28 h.ok
 have hr:PartC enc Tryz.prog W 28 cs.toList d:=⟨by obtain ⟨m,hm⟩:=h.trod;exact ⟨m,p,hm⟩,h.sized⟩
 obtain ⟨x,q,hy,he⟩:=part_edit hr
 refine ⟨x,q,?_,he⟩
 have hcs:cs=⟨cs.toList⟩:=rfl
 rw [hcs,hy]
theorem var0 {w:World} (h:w.ShapedOpen Tryz.prog):Sh w:=Go.Proofs.cell_of_shapedOpen_int (zero:=#[.int .i64 0]) (t:=3) h (of_decide_eq_true (by kernel_rfl)) (by kernel_rfl) rfl (by kernel_rfl) (by kernel_rfl) Tryz.underlying3
structure Ot where
 e:Ed
 q:Pd
 fate:Int
instance:Inhabited Ot:=⟨⟨⟨[],[],[],0,0,⟨0,0,0⟩⟩,⟨none,0,none,0,none,0⟩,0⟩⟩
def Ot.cs (x:Ot):List Value:=[.slice x.q.AA x.e.add.length x.q.cA,.slice x.q.AD x.e.drop.length x.q.cD,.slice x.q.AM x.e.marks.length x.q.cM,.int .i64 x.e.cut,.int .i64 x.e.fence,.int .i64 x.e.by_.agent,.int .i64 x.e.by_.life,.int .i64 x.e.by_.count,.int .i64 x.fate]
theorem ots_len (x:Ot):x.cs.length=9:=rfl
set_option maxRecDepth 100000 in
theorem part_ot {H:Type} {enc:TypeId × Value→H} {W:World} {cs:List Value} {d:DataW H} (hl:cs.length=9) (h:PartC enc Tryz.prog W 67 cs d):∃ x:Ot,Edi W W.heap.size x.e x.q∧x.cs=cs:=by
 match cs,hl with
 | [c0,c1,c2,c3,c4,c5,c6,c7,c8],_ =>
  obtain ⟨ye,he⟩:=h.fieldAt Tryz.underlying67 0 0 8 28 (by kernel_rfl)
  obtain ⟨yf,hf⟩:=h.fieldAt Tryz.underlying67 1 8 1 3 (by kernel_rfl)
  have he:PartC enc Tryz.prog W 28 [c0,c1,c2,c3,c4,c5,c6,c7] ye:=he
  have hf:PartC enc Tryz.prog W 3 [c8] yf:=hf
  obtain ⟨x,q,hx,hE⟩:=part_edit he
  obtain ⟨fate,rfl,_⟩:=hf.one.int Tryz.underlying3
  injection hx with e1 hx
  injection hx with e2 hx
  injection hx with e3 hx
  injection hx with e4 hx
  injection hx with e5 hx
  injection hx with e6 hx
  injection hx with e7 hx
  injection hx with e8 hx
  subst e1 e2 e3 e4 e5 e6 e7 e8
  exact ⟨⟨x,q,fate⟩,hE,rfl⟩
structure Oth (W:World) (B:Nat) (A:Option Addr) (c:Nat) (l:List Ot):Prop where
 rd:Reads W B 9 A l.length (l.flatMap Ot.cs)
 cap:l.length≤c
 ok:∀ a∈l,Edi W B a.e a.q
theorem Oth.below {W W':World} {B c:Nat} {A:Option Addr} {l:List Ot} (h:Oth W B A c l) (hb:Below B W W'):Oth W' B A c l:=⟨h.rd.below hb,h.cap,fun a ha=>(h.ok a ha).below hb⟩
set_option maxRecDepth 100000 in
theorem arg_oths {H:Type} {enc:TypeId × Value→H} {W:World} {base:Nat} {v:Value} {d:DataW H} {p:List MemPlace} (h:Arg enc Tryz.prog W base 65 v d p) :
  ∃ (A:Option Addr) (c:Nat) (l:List Ot),v=.slice A l.length c∧Oth W W.heap.size A c l:=by
 obtain ⟨A0,n0,c0,rfl⟩:=okWide_slice Tryz.underlying65 h.ok
 obtain ⟨A,c,l,e,hl,_,hby,hr,hg⟩:=(h.part rfl).rows Tryz.underlying65 (size:=9) (by kernel_rfl) (by decide) Ot.cs (fun x=>Edi W W.heap.size x.e x.q) (fun cs y h1 h2=>part_ot h1 h2) (fun _=>rfl)
 exact ⟨A,c,l,e,hr,hl,hg⟩
def cut9 (A:Option Addr) (c:Nat):Option Addr:=if c=1 then A else A.map (·.add (1*9))
theorem Tryz.infoOth:(Tryz.prog.info? 67).map (fun i=>i.size)=some 9:=by kernel_rfl
set_option maxRecDepth 100000 in
theorem sliceOt_at (w:World) (A:Option Addr) (n c:Nat) (h:1≤n) (_hc:n≤c) :
  (Instr.slice 65 (.slice A n c) (some (.int .i64 1)) none none).run Tryz.prog w=.ok (.slice (cut9 A c) (n-1) (c-1)) w:=by
 unfold cut9
 have hE:Tryz.prog.elem 65=67:=by kernel_rfl
 obtain ⟨i,hi,hs⟩:∃ i,Tryz.prog.info? 67=some i∧i.size=9:=by
  have h:=Tryz.infoOth
  cases hi:Tryz.prog.info? 67 with
  | none=>rw [hi] at h;cases h
  | some i=>rw [hi] at h;injection h with h;exact ⟨i,rfl,h⟩
 rw [run_slice_l w _ A n c Tryz.underlying65 .i64 _ (by omega) (by omega)]
 rw [hE]
 simp [sliced,Result.andThen,sizeOf,typeInfo,hi,hs]
theorem Oth.cut {W:World} {B c:Nat} {A:Option Addr} {x:Ot} {l:List Ot} (h:Oth W B A c (x::l)):Oth W B (cut9 A c) (c-1) l:=by
 have h1:=h.rd.cut (k:=1) (cap:=c) (by simp) h.cap
 have e:((x::l).flatMap Ot.cs).drop (1*9)=l.flatMap Ot.cs:=by
  rw [List.flatMap_cons,List.drop_left' (by rw [ots_len])]
 rw [e] at h1
 exact ⟨h1,by have:=h.cap;simp at this;omega,fun a ha=>h.ok a (List.mem_cons_of_mem _ ha)⟩
end Go.Proofs.YtibnehaibgbliaaGreat.Mf
