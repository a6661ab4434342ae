/- Laws for the row's walk. -/
import Derived.Test.YtibnehaibgbliaaGreatR22
import Derived.Test.YtibnehaibgbliaaGreatR25
import Derived.Orders
set_option linter.unusedVariables false
set_option linter.unusedSimpArgs false
open Go.Lib renaming hid → Jh
namespace Go.Proofs.YtibnehaibgbliaaGreat.Mf
open Go.RowKit Go.Proofs.YtibnehaibgbliaaGreat
theorem parB_len2 {s:ByteArray} (h:parB s=true):s.size≤242:=by
 obtain ⟨l,h1,h2⟩:∃ l,Lb.ParP s.data.toList l:=by unfold parB at h;simpa using h
 have h3:s.data.toList.length=s.size:=rfl
 have hl:=Lb.textK_len h1 l.length (Nat.le_refl _)
 have h4:l.length≤4:=(of_decide_eq_true h1).1
 rw [← h2] at h3
 unfold Lb.textB at h3
 simp only [List.length_cons,List.length_append,List.length_nil] at h3
 omega
theorem encE_len2 {x:En} (h:x.In) (hp:x.part.size≤242):(encE x).length≤400:=by
 have h1:=fits_len h.f1
 have h2:=fits_len h.f2
 have h6:=fits_len h.f6
 have e1:x.key.data.toList.length=x.key.size:=rfl
 have e2:x.part.data.toList.length=x.part.size:=rfl
 have k1:=h.key
 unfold encE
 simp only [List.length_append,List.length_cons,List.length_nil] at *
 omega
theorem encB_fit {m:Md} (h:rightB m=true) (hk:∀ x∈m.E,x.Ok):(encB m).length≤262144:=by
 have hI:=right_in h hk
 have hE:=fl_len (f:=encE) (l:=m.E) (n:=400) fun x hx=>encE_len2 (hI.E x hx) (by
  have h1:=(right_f h).enE x hx
  unfold enB at h1
  simp only [Bool.and_eq_true] at h1
  exact parB_len2 h1.1.1.1.1.1.1.1.1.1.1)
 have hM:=fl_len (f:=encK) (l:=m.M) (n:=20) fun x hx=>fits_len (hI.fK hx)
 have hO:=fl_len (f:=encO) (l:=m.O) (n:=30) fun x hx=>fits_len (hI.fO hx)
 have h4:=fits_len hI.f4
 have h1:=fits_len hI.fm
 have h2:=fits_len hI.fo
 have l1:=hI.le
 have l2:=hI.lm
 have l3:=hI.lo
 unfold encB Cr.cseal Cr.four encT head5
 simp only [List.length_append,List.length_cons,List.length_nil,List.length_map] at *
 omega
def StM (w:World) (base gs:Nat) (M:Md) (V now:Int):Prop :=
 (V=0∧M=zeroM∧S0 w base gs now)∨(1≤V∧rightB M=true∧Gd M∧∃ go cO x,S1 w base gs go cO x V now∧x.d=encB M∧x.ver=V)
section
variable {w w':World} {base gs:Nat} {M X:Md} {V now:Int}
theorem StM.low (h:StM w base gs M V now):base≤gs∧gs<w.heap.size:=by
 rcases h with ⟨_,_,h⟩|⟨_,_,_,go,cO,x,h,_⟩
 ·exact ⟨h.low,h.blk.lt⟩
 ·exact ⟨h.low,h.blk.lt⟩
theorem StM.below (h:StM w base gs M V now) (hb:Below w.heap.size w w'):StM w' base gs M V now:=by
 rcases h with ⟨h1,h2,h⟩|⟨h1,h2,h3,go,cO,x,h,h4,h5⟩
 ·exact .inl ⟨h1,h2,h.below hb⟩
 ·exact .inr ⟨h1,h2,h3,go,cO,x,h.below hb,h4,h5⟩
theorem StM.other (h:StM w base gs M V now) {k:Nat} {t:TypeId} {cs:Array Value} (ho:Only k w w') (hk:Blk w k t cs) (h0:72≠t) (h1:111≠t) (h2:5≠t):StM w' base gs M V now:=by
 rcases h with ⟨h3,h4,h⟩|⟨h3,h4,h5,go,cO,x,h,h6,h7⟩
 ·exact .inl ⟨h3,h4,h.other ho hk h0⟩
 ·exact .inr ⟨h3,h4,h5,go,cO,x,h.other ho hk h0 h1 h2,h6,h7⟩
theorem StM.gd (h:StM w base gs M V now):Gd M∧0≤V:=by
 rcases h with ⟨h1,h2,h⟩|⟨h1,h2,h3,_⟩
 ·exact ⟨by rw [h2];exact Gd.zero,by omega⟩
 ·exact ⟨h3,by omega⟩
def RetGet (w:World) (M:Md) (V:Int) (e:Ending) (w':World):Prop :=
 ∃ (err:Int) (A:Option Addr) (c:Nat) (d:List UInt8) (born:Int),e=.returned (repV err A d.length c V born)∧w'.ownsRow w.heap.size 5 1 (.slice A d.length c) d.length (d.map byteV)∧Below w.heap.size w w'∧d.length≤262144∧((V=0∧err=7∧M=zeroM)∨(1≤V∧err=0∧d=encB M∧decB d=(M,0)))
theorem getC (w:World) (h:StM w base gs M V now):Calls Tryz.prog 23 #[.pointer (some ⟨gs,0,none⟩),.agg (callC 3 manK none 0 0 0)] w (RetGet w M V):=by
 rcases h with ⟨rfl,h2,h⟩|⟨h1,h2,h3,go,cO,x,h,h4,rfl⟩
 ·refine (do_get0 w h).mono ?_
  rintro e w' ⟨rfl,hb⟩
  exact ⟨7,none,0,[],0,rfl,World.ownsRow_nil _ _ _ _,hb,Nat.zero_le _,.inl ⟨rfl,rfl,h2⟩⟩
 ·refine (do_get1 w h).mono ?_
  rintro e w' ⟨A,c,rfl,ho,hb⟩
  exact ⟨0,A,c,x.d,x.born,rfl,ho,hb,h.sz,.inr ⟨h1,rfl,h4,by rw [h4];exact decB_encB (right_in h2 h3.ok) h2⟩⟩
def RetPutM (w:World) (base gs:Nat) (X:Md) (V now:Int) (e:Ending) (w':World):Prop :=
 e=.returned (repV 0 none 0 0 (V+1) now)∧StM w' base gs X (V+1) now∧KT w w'∧Below base w w'
theorem putC (w:World) (h:StM w base gs M V now) {b:Nat} {A:Option Addr} {c n:Nat} {d:List UInt8} (hn:d.length=n) (hd:w.ownsRow b 5 1 (.slice A n c) n (d.map byteV)) (hx:d=encB X) (hr:rightB X=true) (hg:Gd X) (v:Int) (hv:v=V) (hv1:V≤1000000) (hbw:base≤w.heap.size) :
  Calls Tryz.prog 23 #[.pointer (some ⟨gs,0,none⟩),.agg (callC 2 manK A n c v)] w (RetPutM w base gs X V now):=by
 subst hn
 have hl:d.length≤262144:=by rw [hx];exact encB_fit hr hg.ok
 have fin:∀ e w',0≤V→RetPut1 w base gs d V now e w'→RetPutM w base gs X V now e w':=by
  rintro e w' h0 ⟨go,cO,x,rfl,hs,hxd,hxv,_,hk,hb⟩
  exact ⟨rfl,.inr ⟨by omega,hr,hg,go,cO,x,hs,by rw [hxd,hx],hxv⟩,hk,hb⟩
 rcases h with ⟨h1,h2,h⟩|⟨h1,h2,h3,go,cO,x,h,h4,h5⟩
 ·rw [hv,h1]
  refine (do_put0 w h hd hl 0 (Jh rfl) hbw).mono fun e w' hr=>?_
  rw [h1] at fin
  exact fin e w' (by omega) hr
 ·refine (do_put1 w h hd hl v (by omega) (by omega) (by omega) hv1 hbw).mono fun e w' hr=>fin e w' (by omega) hr
theorem putvC (w:World) (h:StM w base gs M V now) (A:Option Addr) (n c:Nat) (v:Int) (hv:v≠V) (hV:1≤V) :
  Calls Tryz.prog 23 #[.pointer (some ⟨gs,0,none⟩),.agg (callC 2 manK A n c v)] w fun e w'=>e=.returned (repV 8 none 0 0 0 0)∧Below w.heap.size w w':=by
 rcases h with ⟨h1,h2,h⟩|⟨h1,h2,h3,go,cO,x,h,h4,h5⟩
 ·omega
 ·exact do_putv w h A n c v (by omega)
set_option maxRecDepth 100000 in
set_option maxHeartbeats 3200000 in
theorem nowC (w:World) (h:StM w base gs M V now) :
  Calls Tryz.prog 24 #[.pointer (some ⟨gs,0,none⟩)] w fun e w'=>∃ pz,e=.returned (.tuple #[mdV M pz,.int .i64 V])∧Mow w' w.heap.size M pz∧Below w.heap.size w w':=by
 have hw1:Below w.heap.size w (w.alloc (.cells #[.int .i64 0,.int .i64 0,.int .i64 0,.slice none 0 0,.slice none 0 0,.slice none 0 0] 53)):=(Below.refl _ _).alloc (Nat.le_refl _) _
 have HBm:=Jh (Blk.new w 53 #[.int .i64 0,.int .i64 0,.int .i64 0,.slice none 0 0,.slice none 0 0,.slice none 0 0])
 have HG:=Jh (getC _ (h.below hw1))
 have hz:(w.alloc (.cells #[.int .i64 0,.int .i64 0,.int .i64 0,.slice none 0 0,.slice none 0 0,.slice none 0 0] 53)).heap.size=w.heap.size+1:=by simp
 have HZ:=Jh hz
 have HW1:=Jh hw1
 clear h hw1 hz
 go_enter Tryz.func24,Tryz.ntmps24
 go_wp2_with fail
 obtain ⟨gm,hgm⟩:∃ gm,gm=w.heap.size:=⟨_,rfl⟩
 have HGM:=Jh hgm
 rw [← hgm] at HBm ⊢
 clear hgm
 generalize w.alloc (.cells #[.int .i64 0,.int .i64 0,.int .i64 0,.slice none 0 0,.slice none 0 0,.slice none 0 0] 53)=w1 at *
 refine HG.out.mono ?_
 rintro e w2 ⟨err,A,c,d,born,rfl,hown,hb2,hdl,hcase⟩
 have HB2:=Jh (HBm.out.below hb2 HBm.out.lt)
 have HW2:=Jh (HW1.out.trans (hb2.mono HW1.out.size))
 have hb3:=(Below.refl w2.heap.size w2).alloc (Nat.le_refl _) (.cells (repA err A d.length c V (.int .i64 born) (.int .i64 0) (.slice none 0 0) (.bool false)) 42)
 have HR3:=Jh (Blk.new w2 42 (repA err A d.length c V (.int .i64 born) (.int .i64 0) (.slice none 0 0) (.bool false)))
 have HB3:=Jh (HB2.out.below hb3 HB2.out.lt)
 have HW3:=Jh (HW2.out.trans (hb3.mono HW2.out.size))
 have HO3:=Jh (own_below hown hb3)
 have HCS:=Jh hcase
 have HS2:Hid (gm+1≤w2.heap.size):=Jh HB2.out.lt
 clear HG hown hb2 hb3 hcase HB2 HW2 HBm HW1
 go_upto_region 2 with fail
 obtain ⟨gr,hgr⟩:∃ gr,gr=w2.heap.size:=⟨_,rfl⟩
 rw [← hgr] at HR3 ⊢
 have HGR:=Jh hgr
 clear hgr
 generalize w2.alloc (.cells (repA err A d.length c V (.int .i64 born) (.int .i64 0) (.slice none 0 0) (.bool false)) 42)=w3 at *
 have r0:w3.cell? ⟨gr,0,none⟩=some (.int .i64 err):=HR3.out.cell 0
 have r1:w3.cell? ⟨gr,1,none⟩=some (.slice A d.length c):=HR3.out.cell 1
 rcases HCS.out with ⟨h0,h7,hz⟩|⟨h1,h0,hd,hdec⟩
 ·have e7:(err != 0)=true:=net (by omega)
  have f0:=HB3.out.frozen 0
  have f1:=HB3.out.frozen 1
  have f2:=HB3.out.frozen 2
  have f3:=HB3.out.frozen 3
  have f4:=HB3.out.frozen 4
  have f5:=HB3.out.frozen 5
  obtain ⟨z0,z1,z2,z3,z4,z5⟩:w3.cell? ⟨gm,0,none⟩=some (.int .i64 0)∧w3.cell? ⟨gm,1,none⟩=some (.int .i64 0)∧w3.cell? ⟨gm,2,none⟩=some (.int .i64 0)∧w3.cell? ⟨gm,3,none⟩=some (.slice none 0 0)∧w3.cell? ⟨gm,4,none⟩=some (.slice none 0 0)∧w3.cell? ⟨gm,5,none⟩=some (.slice none 0 0):=⟨HB3.out.cell 0,HB3.out.cell 1,HB3.out.cell 2,HB3.out.cell 3,HB3.out.cell 4,HB3.out.cell 5⟩
  have HV:=Jh (And.intro h0 hz)
  clear h0 h7 hz HCS
  go_wp2
  have hB4:=set6_blk HB3.out (.int .i64 0) (.int .i64 0) (.int .i64 0) (.slice none 0 0) (.slice none 0 0) (.slice none 0 0)
  refine bodyPost_ret (results_mf rfl _ _ gm 53 #[.int .i64 0,.int .i64 0,.int .i64 0,.slice none 0 0,.slice none 0 0,.slice none 0 0] _ _ rfl rfl hB4 Tryz.underlying53 rfl (by kernel_rfl)) rfl ?_
  obtain ⟨hv0,hmz⟩:=HV.out
  subst hv0 hmz
  have hgm:=HGM.out
  exact ⟨nilP,rfl,Mow.zero _ _,set6_below HW3.out (by omega) (.int .i64 0) (.int .i64 0) (.int .i64 0) (.slice none 0 0) (.slice none 0 0) (.slice none 0 0)⟩
 ·have e7:(err != 0)=false:=nef h0
  have hDC:=decR_calls w3 (own_bytes HO3.out) (Nat.le_refl _) (own_capn HO3.out) (by omega)
  rw [hdec] at hDC
  have HDC:=Jh hDC
  clear h1 h0 hd hdec HCS hDC
  go_wp2_with fail
  refine HDC.out.mono ?_
  rintro e w4 ⟨pz,rfl,hmo,hb4⟩
  obtain ⟨ZE,zE,ZM,zM,ZO,zO⟩:=pz
  have hb5:=hb4.trans ((Below.refl w4.heap.size w4).alloc (Nat.le_refl _) (.cells #[.int .i64 M.gen,.int .i64 M.cut,.int .i64 M.fence,.slice ZE M.E.length zE,.slice ZM M.M.length zM,.slice ZO M.O.length zO] 53) |>.mono hb4.size)
  have HX5:=Jh (Blk.new w4 53 #[.int .i64 M.gen,.int .i64 M.cut,.int .i64 M.fence,.slice ZE M.E.length zE,.slice ZM M.M.length zM,.slice ZO M.O.length zO])
  have HB5:=Jh (HB3.out.below hb5 HB3.out.lt)
  have HR5:=Jh (HR3.out.below hb5 HR3.out.lt)
  have HW5:=Jh (HW3.out.trans (hb5.mono HW3.out.size))
  have HM5:=Jh ((hmo.below ((Below.refl w4.heap.size w4).alloc (Nat.le_refl _) (.cells #[.int .i64 M.gen,.int .i64 M.cut,.int .i64 M.fence,.slice ZE M.E.length zE,.slice ZM M.M.length zM,.slice ZO M.O.length zO] 53))).mono (show gm+1≤w3.heap.size from HB3.out.lt))
  clear hmo hb4 hb5 HDC HB3 HR3 HW3 HO3 r0 r1
  go_upto_region 5 with fail
  obtain ⟨gx,hgx⟩:∃ gx,gx=w4.heap.size:=⟨_,rfl⟩
  rw [← hgx] at HX5 ⊢
  clear hgx
  generalize w4.alloc (.cells #[.int .i64 M.gen,.int .i64 M.cut,.int .i64 M.fence,.slice ZE M.E.length zE,.slice ZM M.M.length zM,.slice ZO M.O.length zO] 53)=w5 at *
  obtain ⟨y0,y1,y2,y3,y4,y5⟩:w5.cell? ⟨gx,0,none⟩=some (.int .i64 M.gen)∧w5.cell? ⟨gx,1,none⟩=some (.int .i64 M.cut)∧w5.cell? ⟨gx,2,none⟩=some (.int .i64 M.fence)∧w5.cell? ⟨gx,3,none⟩=some (.slice ZE M.E.length zE)∧w5.cell? ⟨gx,4,none⟩=some (.slice ZM M.M.length zM)∧w5.cell? ⟨gx,5,none⟩=some (.slice ZO M.O.length zO):=⟨HX5.out.cell 0,HX5.out.cell 1,HX5.out.cell 2,HX5.out.cell 3,HX5.out.cell 4,HX5.out.cell 5⟩
  have r2:w5.cell? ⟨gr,2,none⟩=some (.int .i64 V):=HR5.out.cell 2
  have f0:=HB5.out.frozen 0
  have f1:=HB5.out.frozen 1
  have f2:=HB5.out.frozen 2
  have f3:=HB5.out.frozen 3
  have f4:=HB5.out.frozen 4
  have f5:=HB5.out.frozen 5
  obtain ⟨z0,z1,z2,z3,z4,z5⟩:w5.cell? ⟨gm,0,none⟩=some (.int .i64 0)∧w5.cell? ⟨gm,1,none⟩=some (.int .i64 0)∧w5.cell? ⟨gm,2,none⟩=some (.int .i64 0)∧w5.cell? ⟨gm,3,none⟩=some (.slice none 0 0)∧w5.cell? ⟨gm,4,none⟩=some (.slice none 0 0)∧w5.cell? ⟨gm,5,none⟩=some (.slice none 0 0):=⟨HB5.out.cell 0,HB5.out.cell 1,HB5.out.cell 2,HB5.out.cell 3,HB5.out.cell 4,HB5.out.cell 5⟩
  have hne:gr≠gm:=by have:=HGR.out;have:=HS2.out;omega
  have rr2:=((set6_only (Only.refl gm w5) (.int .i64 M.gen) (.int .i64 M.cut) (.int .i64 M.fence) (.slice ZE M.E.length zE) (.slice ZM M.M.length zM) (.slice ZO M.O.length zO)).blk HR5.out hne).cell 2
  simp only [List.getElem?_toArray,List.getElem?_cons_zero,List.getElem?_cons_succ] at rr2
  unfold set6 at rr2
  go_region
  go_wp2
  have hdr:=below_drewN_ (Below.refl (set6 w5 gm (.int .i64 M.gen) (.int .i64 M.cut) (.int .i64 M.fence) (.slice ZE M.E.length zE) (.slice ZM M.M.length zM) (.slice ZO M.O.length zO)).heap.size (set6 w5 gm (.int .i64 M.gen) (.int .i64 M.cut) (.int .i64 M.fence) (.slice ZE M.E.length zE) (.slice ZM M.M.length zM) (.slice ZO M.O.length zO))) 1
  have hB4:=set6_blk HB5.out (.int .i64 M.gen) (.int .i64 M.cut) (.int .i64 M.fence) (.slice ZE M.E.length zE) (.slice ZM M.M.length zM) (.slice ZO M.O.length zO)
  have hB6:=hB4.below hdr hB4.lt
  have hgm:=HGM.out
  have hW6:=(set6_below HW5.out (B:=w.heap.size) (g:=gm) (by omega) (.int .i64 M.gen) (.int .i64 M.cut) (.int .i64 M.fence) (.slice ZE M.E.length zE) (.slice ZM M.M.length zM) (.slice ZO M.O.length zO))
  have hW7:=hW6.trans (hdr.mono hW6.size)
  have hM6:=(HM5.out.set6 (Nat.lt_succ_self gm) (.int .i64 M.gen) (.int .i64 M.cut) (.int .i64 M.fence) (.slice ZE M.E.length zE) (.slice ZM M.M.length zM) (.slice ZO M.O.length zO)).below hdr
  refine bodyPost_ret (results_mf rfl _ _ gm 53 #[.int .i64 M.gen,.int .i64 M.cut,.int .i64 M.fence,.slice ZE M.E.length zE,.slice ZM M.M.length zM,.slice ZO M.O.length zO] _ _ rfl rfl hB6 Tryz.underlying53 rfl (by kernel_rfl)) rfl ?_
  exact ⟨⟨ZE,zE,ZM,zM,ZO,zO⟩,rfl,hM6.mono (by omega),hW7⟩
end
section
variable {w w':World} {base gs:Nat} {M X:Md} {V now:Int} {d:Ed} {q:Pd}
noncomputable def swM (M:Md) (d:Ed):Md:=if appE M d=0 then appM M d else M
def RetSwap (w:World) (base gs:Nat) (M:Md) (d:Ed) (V now:Int) (e:Ending) (w':World):Prop :=
 ∃ b,e=.returned (.bool b)∧(b=true→appE M d=0)∧(b=false→appE M d≠0)∧StM w' base gs (swM M d) (if b=true then V+1 else V) now∧KT w w'∧Below base w w'
set_option maxRecDepth 100000 in
set_option maxHeartbeats 6400000 in
theorem swapC (w:World) (h:StM w base gs M V now) {B:Nat} (hE:Edi w B d q) (hB:B≤w.heap.size) (hge:Ge d) (hv1:V≤1000000) (hbw:base≤w.heap.size) :
  Calls Tryz.prog 22 #[.pointer (some ⟨gs,0,none⟩),edV d q] w (RetSwap w base gs M d V now):=by
 have hw1:Below w.heap.size w (w.alloc (.cells #[.slice q.AA d.add.length q.cA,.slice q.AD d.drop.length q.cD,.slice q.AM d.marks.length q.cM,.int .i64 d.cut,.int .i64 d.fence,.int .i64 d.by_.agent,.int .i64 d.by_.life,.int .i64 d.by_.count] 28)):=(Below.refl _ _).alloc (Nat.le_refl _) _
 have HX1:=Jh (Blk.new w 28 #[.slice q.AA d.add.length q.cA,.slice q.AD d.drop.length q.cD,.slice q.AM d.marks.length q.cM,.int .i64 d.cut,.int .i64 d.fence,.int .i64 d.by_.agent,.int .i64 d.by_.life,.int .i64 d.by_.count])
 have HS1:=Jh (h.below hw1)
 have HE:=Jh fun W (hW:Below w.heap.size w W)=>hE.below (hW.mono hB)
 have HW1:=Jh hw1
 have HBB:=Jh (And.intro hB hbw)
 have HGM:=Jh h.gd
 clear h hE hw1 hB hbw
 go_enter Tryz.func22,Tryz.ntmps22
 go_wp2_with fail
 obtain ⟨gx,hgx⟩:∃ gx,gx=w.heap.size:=⟨_,rfl⟩
 rw [← hgx] at HX1 ⊢
 clear hgx
 generalize w.alloc (.cells #[.slice q.AA d.add.length q.cA,.slice q.AD d.drop.length q.cD,.slice q.AM d.marks.length q.cM,.int .i64 d.cut,.int .i64 d.fence,.int .i64 d.by_.agent,.int .i64 d.by_.life,.int .i64 d.by_.count] 28)=w1 at *
 refine (nowC w1 HS1.out).mono ?_
 rintro e w2 ⟨pz,rfl,hmo,hb2⟩
 obtain ⟨ZE,zE,ZM,zM,ZO,zO⟩:=pz
 have hb3:=hb2.trans ((Below.refl w2.heap.size w2).alloc (Nat.le_refl _) (.cells #[.int .i64 M.gen,.int .i64 M.cut,.int .i64 M.fence,.slice ZE M.E.length zE,.slice ZM M.M.length zM,.slice ZO M.O.length zO] 53) |>.mono hb2.size)
 have HM3:=Jh (hmo.below ((Below.refl w2.heap.size w2).alloc (Nat.le_refl _) (.cells #[.int .i64 M.gen,.int .i64 M.cut,.int .i64 M.fence,.slice ZE M.E.length zE,.slice ZM M.M.length zM,.slice ZO M.O.length zO] 53)))
 have HY3:=Jh (Blk.new w2 53 #[.int .i64 M.gen,.int .i64 M.cut,.int .i64 M.fence,.slice ZE M.E.length zE,.slice ZM M.M.length zM,.slice ZO M.O.length zO])
 have HX3:=Jh (HX1.out.below hb3 HX1.out.lt)
 have HS3:=Jh (HS1.out.below hb3)
 have HW3:=Jh (HW1.out.trans (hb3.mono HW1.out.size))
 clear hmo hb2 hb3 HX1 HS1 HW1
 go_upto_region 2 with fail
 obtain ⟨gm,hgm⟩:∃ gm,gm=w2.heap.size:=⟨_,rfl⟩
 rw [← hgm] at HY3 ⊢
 clear hgm
 generalize w2.alloc (.cells #[.int .i64 M.gen,.int .i64 M.cut,.int .i64 M.fence,.slice ZE M.E.length zE,.slice ZM M.M.length zM,.slice ZO M.O.length zO] 53)=w3 at *
 obtain ⟨y0,y1,y2,y3,y4,y5⟩:w3.cell? ⟨gm,0,none⟩=some (.int .i64 M.gen)∧w3.cell? ⟨gm,1,none⟩=some (.int .i64 M.cut)∧w3.cell? ⟨gm,2,none⟩=some (.int .i64 M.fence)∧w3.cell? ⟨gm,3,none⟩=some (.slice ZE M.E.length zE)∧w3.cell? ⟨gm,4,none⟩=some (.slice ZM M.M.length zM)∧w3.cell? ⟨gm,5,none⟩=some (.slice ZO M.O.length zO):=⟨HY3.out.cell 0,HY3.out.cell 1,HY3.out.cell 2,HY3.out.cell 3,HY3.out.cell 4,HY3.out.cell 5⟩
 have z0:=HX3.out.cell 0
 have z1:=HX3.out.cell 1
 have z2:=HX3.out.cell 2
 have z3:=HX3.out.cell 3
 have z4:=HX3.out.cell 4
 have z5:=HX3.out.cell 5
 have z6:=HX3.out.cell 6
 have z7:=HX3.out.cell 7
 simp only [List.getElem?_toArray,List.getElem?_cons_zero,List.getElem?_cons_succ] at z0 z1 z2 z3 z4 z5 z6 z7
 have HAp:=Jh (applyR_calls w3 (HM3.out.good HGM.out.1) ((HE.out w3 HW3.out).more (Nat.le_trans HBB.out.1 HW3.out.size)) (Nat.le_refl _) HGM.out.1.short hge.short (by have:=hge.a;omega))
 go_wp2_with fail
 refine HAp.out.mono ?_
 rintro e w4 ⟨px,rfl,hmx,hb4⟩
 obtain ⟨XE,xE,XM,xM,XO,xO⟩:=px
 have HGX:Hid (appE M d=0→Gd (appM M d)∧rightB (appM M d)=true):=Jh fun h=>⟨app_gd h HGM.out.1 hge,app_right h⟩
 have HSW:Hid (swM M d=if appE M d=0 then appM M d else M):=Jh rfl
 generalize appM M d=Y at *
 generalize hae:appE M d=ae at *
 have HAE:=Jh hae
 clear hae
 have hb5:=hb4.trans ((Below.refl w4.heap.size w4).alloc (Nat.le_refl _) (.cells #[.int .i64 Y.gen,.int .i64 Y.cut,.int .i64 Y.fence,.slice XE Y.E.length xE,.slice XM Y.M.length xM,.slice XO Y.O.length xO] 53) |>.mono hb4.size)
 have HM5:=Jh (hmx.below ((Below.refl w4.heap.size w4).alloc (Nat.le_refl _) (.cells #[.int .i64 Y.gen,.int .i64 Y.cut,.int .i64 Y.fence,.slice XE Y.E.length xE,.slice XM Y.M.length xM,.slice XO Y.O.length xO] 53)))
 have HY5:=Jh (Blk.new w4 53 #[.int .i64 Y.gen,.int .i64 Y.cut,.int .i64 Y.fence,.slice XE Y.E.length xE,.slice XM Y.M.length xM,.slice XO Y.O.length xO])
 have HS5:=Jh (HS3.out.below hb5)
 have HW5:=Jh (HW3.out.trans (hb5.mono HW3.out.size))
 clear hmx hb4 hb5 HAp HY3 HX3 HS3 HW3 HM3 y0 y1 y2 y3 y4 y5 z0 z1 z2 z3 z4 z5 z6 z7
 go_upto_region 3 with fail
 obtain ⟨gy,hgy⟩:∃ gy,gy=w4.heap.size:=⟨_,rfl⟩
 rw [← hgy] at HY5 ⊢
 clear hgy
 generalize w4.alloc (.cells #[.int .i64 Y.gen,.int .i64 Y.cut,.int .i64 Y.fence,.slice XE Y.E.length xE,.slice XM Y.M.length xM,.slice XO Y.O.length xO] 53)=w5 at *
 obtain ⟨y0,y1,y2,y3,y4,y5⟩:w5.cell? ⟨gy,0,none⟩=some (.int .i64 Y.gen)∧w5.cell? ⟨gy,1,none⟩=some (.int .i64 Y.cut)∧w5.cell? ⟨gy,2,none⟩=some (.int .i64 Y.fence)∧w5.cell? ⟨gy,3,none⟩=some (.slice XE Y.E.length xE)∧w5.cell? ⟨gy,4,none⟩=some (.slice XM Y.M.length xM)∧w5.cell? ⟨gy,5,none⟩=some (.slice XO Y.O.length xO):=⟨HY5.out.cell 0,HY5.out.cell 1,HY5.out.cell 2,HY5.out.cell 3,HY5.out.cell 4,HY5.out.cell 5⟩
 by_cases h0:ae=0
 ·have e0:(ae == 0)=true:=eqt h0
  obtain ⟨hgy,hry⟩:=HGX.out h0
  have HH0:=Jh h0
  have HEn:=Jh (encR_calls w5 (HM5.out.good hgy) (Nat.le_refl _) (right_in hry hgy.ok))
  have HGY:=Jh (And.intro hgy hry)
  clear h0 hgy hry
  go_wp2_with fail
  refine HEn.out.mono ?_
  rintro e w6 he
  obtain ⟨A,c,rfl,-,-,-,hb6,hown⟩:=he.opened
  have HS6:=Jh (HS5.out.below hb6)
  have HW6:=Jh (HW5.out.trans (hb6.mono HW5.out.size))
  have HP:=Jh (putC w6 HS6.out (A:=A) (c:=c) (d:=encB Y) rfl hown rfl HGY.out.2 HGY.out.1 V rfl hv1 (Nat.le_trans HBB.out.2 HW6.out.size))
  clear he hb6 hown HEn y0 y1 y2 y3 y4 y5
  generalize (encB Y).length=nY at *
  go_wp2_with fail
  refine HP.out.mono ?_
  rintro e w7 ⟨rfl,hs7,hk7,hb7⟩
  have HF:=Jh (And.intro hs7 (And.intro ((KT.of_below HW6.out).trans hk7) ((HW6.out.mono HBB.out.2).trans hb7)))
  clear hs7 hk7 hb7 HP
  have hfl:∀ W:World,(Instr.field 42 (repV 0 none 0 0 (V+1) now) 0).run Tryz.prog W=.ok (.int .i64 0) W:=fun W=>by kernel_rfl
  go_wp2
  go_ret
  exact ⟨true,rfl,fun _=>HAE.out.trans HH0.out,fun h=>(by cases h),by rw [HSW.out,if_pos HH0.out];exact HF.out.1,HF.out.2.1,HF.out.2.2⟩
 ·have e0:(ae == 0)=false:=eqf h0
  have HH0:=Jh h0
  clear h0
  go_wp2
  go_ret
  exact ⟨false,rfl,fun h=>(by cases h),fun _=>by rw [HAE.out];exact HH0.out,by rw [HSW.out,if_neg HH0.out];exact HS5.out,KT.of_below HW5.out,HW5.out.mono HBB.out.2⟩
end
set_option maxRecDepth 100000 in
set_option maxHeartbeats 3200000 in
theorem didR_of (w:World) {B:Nat} {m:Md} {p:Pl} (h:Man w B m p) (hB:B≤w.heap.size) (y:Ow):Calls Tryz.prog 25 #[mdV m p,owV y] w fun e w'=>e=.returned (.bool (m.O.any (didB y)))∧Below w.heap.size w w':=by
 have HT:Hid (∀ W,Below (w.heap.size+2) ((w.alloc (.cells #[.int .i64 m.gen,.int .i64 m.cut,.int .i64 m.fence,.slice p.AE m.E.length p.cE,.slice p.AM m.M.length p.cM,.slice p.AO m.O.length p.cO] 53)).alloc (.cells #[.int .i64 y.agent,.int .i64 y.life,.int .i64 y.count] 26)) W→(W.cell? ⟨w.heap.size,0,none⟩=some (.int .i64 m.gen)∧W.cell? ⟨w.heap.size,1,none⟩=some (.int .i64 m.cut)∧W.cell? ⟨w.heap.size,2,none⟩=some (.int .i64 m.fence)∧W.cell? ⟨w.heap.size,3,none⟩=some (.slice p.AE m.E.length p.cE)∧W.cell? ⟨w.heap.size,4,none⟩=some (.slice p.AM m.M.length p.cM)∧W.cell? ⟨w.heap.size,5,none⟩=some (.slice p.AO m.O.length p.cO))∧W.cell? ⟨(w.heap.size+1),0,none⟩=some (.int .i64 y.agent)∧W.cell? ⟨(w.heap.size+1),1,none⟩=some (.int .i64 y.life)∧W.cell? ⟨(w.heap.size+1),2,none⟩=some (.int .i64 y.count)):=Jh fun W hW=>by
  have h1:=(((Blk.new w 53 #[.int .i64 m.gen,.int .i64 m.cut,.int .i64 m.fence,.slice p.AE m.E.length p.cE,.slice p.AM m.M.length p.cM,.slice p.AO m.O.length p.cO]).alloc (.cells #[.int .i64 y.agent,.int .i64 y.life,.int .i64 y.count] 26)).below hW (by omega))
  have h2:=Blk.new (w.alloc (.cells #[.int .i64 m.gen,.int .i64 m.cut,.int .i64 m.fence,.slice p.AE m.E.length p.cE,.slice p.AM m.M.length p.cM,.slice p.AO m.O.length p.cO] 53)) 26 #[.int .i64 y.agent,.int .i64 y.life,.int .i64 y.count]
  rw [World.size_alloc] at h2
  have h3:=Blk.below h2 hW (by omega)
  exact ⟨⟨h1.cell 0,h1.cell 1,h1.cell 2,h1.cell 3,h1.cell 4,h1.cell 5⟩,⟨h3.cell 0,h3.cell 1,h3.cell 2⟩⟩
 have HB0:Hid (∀ W,Below (w.heap.size+2) ((w.alloc (.cells #[.int .i64 m.gen,.int .i64 m.cut,.int .i64 m.fence,.slice p.AE m.E.length p.cE,.slice p.AM m.M.length p.cM,.slice p.AO m.O.length p.cO] 53)).alloc (.cells #[.int .i64 y.agent,.int .i64 y.life,.int .i64 y.count] 26)) W→Below w.heap.size w W∧w.heap.size+2≤W.heap.size):=Jh fun W hW=>⟨(((Below.refl w.heap.size w).alloc (Nat.le_refl _) _).alloc (by simp) _).trans (hW.mono (by omega)),by have:=hW.size;simp at this;omega⟩
 have HR:=Jh fun W (hW:Below w.heap.size w W)=>h.ro.below (hW.mono hB)
 have hle:=h.lo
 clear h
 obtain ⟨AE,cE,AM,cM,AO,cO⟩:=p
 dsimp only at *
 have HW:=Jh (Below.refl (w.heap.size+2) ((w.alloc (.cells #[.int .i64 m.gen,.int .i64 m.cut,.int .i64 m.fence,.slice AE m.E.length cE,.slice AM m.M.length cM,.slice AO m.O.length cO] 53)).alloc (.cells #[.int .i64 y.agent,.int .i64 y.life,.int .i64 y.count] 26)))
 go_enter Tryz.func25,Tryz.ntmps25
 go_wp2
 generalize (w.alloc (.cells #[.int .i64 m.gen,.int .i64 m.cut,.int .i64 m.fence,.slice AE m.E.length cE,.slice AM m.M.length cM,.slice AO m.O.length cO] 53)).alloc (.cells #[.int .i64 y.agent,.int .i64 y.life,.int .i64 y.count] 26)=wm at *
 go_loopw [10] (fun i wr=>∃ j:Nat,j≤m.O.length∧i=.int .i64 (j:Int)∧Hid (∀ i,i<j→didB y (gt m.O i)=false)∧Hid (Below (w.heap.size+2) wm wr)) (fun i _=>m.O.length-(intOf i).toNat)
 case atStart=>exact ⟨0,Nat.zero_le _,rfl,Jh (fun i hi=>absurd hi (Nat.not_lt_zero i)),HW⟩
 case round =>
  clear HW
  obtain ⟨j,hj,rfl,HF,HW⟩:=hrel
  obtain ⟨hb00,hsz⟩:=HB0.out wr HW.out
  obtain ⟨-,z0,z1,z2⟩:=HT.out wr HW.out
  have hg1:w.heap.size+1<wr.heap.size:=by omega
  by_cases hlt:j<m.O.length
  ·have hr:=HR.out wr hb00
   obtain ⟨b,off,rfl,hbB⟩:=row_addr hr (by omega)
   obtain ⟨p0,p1,p2⟩:wr.cell? ⟨b,off+j*3,none⟩=some (.int .i64 (gt m.O j).agent)∧wr.cell? ⟨b,off+j*3+1,none⟩=some (.int .i64 (gt m.O j).life)∧wr.cell? ⟨b,off+j*3+2,none⟩=some (.int .i64 (gt m.O j).count):=⟨row_cell ocs_len hr hlt (j:=0) rfl,row_cell ocs_len hr hlt (j:=1) rfl,row_cell ocs_len hr hlt (j:=2) rfl⟩
   have HE:Hid (Below (w.heap.size+2) wm (wr.alloc (.cells #[.int .i64 (gt m.O j).agent,.int .i64 (gt m.O j).life,.int .i64 (gt m.O j).count] 26))):=Jh (HW.out.alloc hsz _)
   have HNo:Hid (didB y (gt m.O j)=true→m.O.any (didB y)=true):=Jh fun hh=>any_yes (p:=didB y) hlt hh
   have HY:=Jh (fun hh=>any_step (p:=didB y) HF.out hh)
   have HX:Hid (didB y (gt m.O j)=(decide ((gt m.O j).agent=y.agent)&&decide ((gt m.O j).life=y.life)&&decide (y.count≤(gt m.O j).count))):=Jh rfl
   clear hr HF
   generalize gt m.O j=x at *
   by_cases e0:x.agent=y.agent
   ·have te0:(x.agent == y.agent)=true:=eqt e0
    by_cases e1:x.life=y.life
    ·have te1:(x.life == y.life)=true:=eqt e1
     by_cases e2:y.count≤x.count
     ·have te2:decide (y.count≤x.count)=true:=dct e2
      have HV:=Jh (HNo.out (by rw [HX.out,dct e0,dct e1,dct e2];rfl))
      clear e0 e1 e2 HX HNo HY
      go_wp2
      go_ret
      exact ⟨by rw [HV.out];rfl,(HB0.out _ HE.out).1⟩
     ·have te2:decide (y.count≤x.count)=false:=dcf e2
      have HY2:=Jh (HY.out (by rw [HX.out,dcf e2];simp))
      (try clear e0);(try clear e1);(try clear e2)
      clear HX HNo HY
      go_wp2
      go_roundw
      case rel=>exact ⟨j+1,by omega,by go_num,HY2,HE⟩
      case measure=>simp [intOf];omega
    ·have te1:(x.life == y.life)=false:=eqf e1
     have HY2:=Jh (HY.out (by rw [HX.out,dcf e1];simp))
     (try clear e0);(try clear e1);(try clear e2)
     clear HX HNo HY
     go_wp2
     go_roundw
     case rel=>exact ⟨j+1,by omega,by go_num,HY2,HE⟩
     case measure=>simp [intOf];omega
   ·have te0:(x.agent == y.agent)=false:=eqf e0
    have HY2:=Jh (HY.out (by rw [HX.out,dcf e0];simp))
    (try clear e0);(try clear e1);(try clear e2)
    clear HX HNo HY
    go_wp2
    go_roundw
    case rel=>exact ⟨j+1,by omega,by go_num,HY2,HE⟩
    case measure=>simp [intOf];omega
  obtain rfl:j=m.O.length:=by omega
  have HV:Hid (m.O.any (didB y)=false):=Jh (any_no HF.out)
  go_wp2
  go_ret
  exact ⟨by rw [HV.out];rfl,hb00⟩
section
variable {base g:Nat} {s:Cst} {q:Pd} {pr pn:Pl}
end
end Go.Proofs.YtibnehaibgbliaaGreat.Mf
namespace Go.Proofs.YtibnehaibgbliaaGreat
open Go.RowKit
section
variable {P:Program} {ops:Array Oper} {Q:Exit→Act→World→Prop}
theorem wpAny_inv {md:Region.Mode} (I:Array Bool→Act→World→Prop)
  (hend:∀ listed a w,I listed a w→Region.ready md ops listed=[]→Q .normal a w)
  (hstep:∀ listed a w,I listed a w→∀ i∈Region.ready md ops listed,wpOp P ops Q i (I (listed.setIfInBounds i true)) a w)
  (hfree:∀ listed a w,I listed a w→listed.size=ops.size) :
  ∀ (fuel:Nat) (listed:Array Bool) (a:Act) (w:World),I listed a w→(listed.toList.countP (! ·))≤fuel→wpAny P md ops Q fuel listed a w
 | 0,listed,a,w,h,hf=>by
  have hr:Region.ready md ops listed=[]:=by
   unfold Region.ready
   rw [List.filter_eq_nil_iff]
   intro i hi
   have hs:=hfree _ _ _ h
   have hi':i<listed.size:=by rw [hs];exact List.mem_range.1 hi
   have h0:listed.toList.countP (! ·)=0:=by omega
   rw [List.countP_eq_zero] at h0
   have:=h0 listed[i] (by simp)
   simp at this
   simp [Array.getD,hi',this]
  exact ⟨hr,hend _ _ _ h hr⟩
 | fuel+1,listed,a,w,h,hf=>by
  refine ⟨hend _ _ _ h,fun i hi=>wpOp_mono (fun a' w' h'=>wpAny_inv I hend hstep hfree fuel _ a' w' h' ?_) (hstep _ _ _ h i hi)⟩
  have hs:=hfree _ _ _ h
  unfold Region.ready at hi
  rw [List.mem_filter] at hi
  have hi':i<listed.size:=by rw [hs];exact List.mem_range.1 hi.1
  have hb:=hi.2
  simp [Array.getD,hi'] at hb
  have hlf:listed.toList[i]'(by simpa using hi')=false:=by simpa using hb.1
  rw [Array.toList_setIfInBounds,List.countP_set (by simpa using hi'),hlf]
  have hpos:0<listed.toList.countP (! ·):=List.countP_pos_iff.2 ⟨listed.toList[i]'(by simpa using hi'),List.getElem_mem _,by rw [hlf];rfl⟩
  generalize listed.toList.countP (! ·)=n at *
  have e:((if (!false)=true then 1 else 0):Nat)=1:=rfl
  have e2:((if (!true)=true then 1 else 0):Nat)=0:=rfl
  rw [e,e2]
  omega
def dstOf (ops:Array Oper) (i:Nat):Option Tmp:=(ops[i]?).bind (·.dst)
def putsIf (ops:Array Oper) (vs:Nat→Value) (c:Nat→Bool):List Nat→Act→Act
 | [],a=>a
 | j::L,a=>putsIf ops vs c L (if c j then a.put (dstOf ops j) (vs j) else a)
theorem putsIf_put (vs:Nat→Value) (c:Nat→Bool) (x:Option Tmp) (v:Value):∀ (L:List Nat) (a:Act),(∀ j∈L,∀ d,x=some d→dstOf ops j≠some d)→putsIf ops vs c L (a.put x v)=(putsIf ops vs c L a).put x v
 | [],_,_=>rfl
 | j::L,a,h=>by
  have hj:=h j (by simp)
  have hL:=fun k hk=>h k (List.mem_cons_of_mem _ hk)
  simp only [putsIf]
  cases c j
  ·exact putsIf_put vs c x v L a hL
  ·simp only [if_true]
   rw [Act.put_comm a v (vs j) hj]
   exact putsIf_put vs c x v L _ hL
theorem putsIf_congr {vs vs':Nat→Value} {c c':Nat→Bool}:∀ (L:List Nat) (a:Act),(∀ j∈L,c' j=c j∧(c j=true→vs' j=vs j))→putsIf ops vs' c' L a=putsIf ops vs c L a
 | [],_,_=>rfl
 | j::L,a,h=>by
  obtain ⟨h1,h2⟩:=h j (by simp)
  simp only [putsIf,h1]
  rw [putsIf_congr L _ fun k hk=>h k (List.mem_cons_of_mem _ hk)]
  cases hc:c j
  ·rfl
  ·simp [h2 hc]
theorem putsIf_add {vs vs':Nat→Value} {c c':Nat→Bool} {i:Nat} (hc:c i=false) (hc':c' i=true) (ho:∀ j,j≠i→c' j=c j∧(c j=true→vs' j=vs j)):∀ (L:List Nat) (a:Act),L.Nodup→i∈L→(∀ j∈L,j≠i→∀ d,dstOf ops i=some d→dstOf ops j≠some d)→putsIf ops vs' c' L a=(putsIf ops vs c L a).put (dstOf ops i) (vs' i)
 | [],_,_,hi,_=>by simp at hi
 | j::L,a,hn,hi,hd=>by
  rw [List.nodup_cons] at hn
  simp only [putsIf]
  by_cases hji:j=i
  ·subst hji
   simp only [hc,hc',if_true]
   rw [putsIf_put]
   ·simp only [Bool.false_eq_true,if_false]
    rw [putsIf_congr L a fun k hk=>ho k (by rintro rfl;exact hn.1 hk)]
   ·exact fun k hk=>hd k (List.mem_cons_of_mem _ hk) (by rintro rfl;exact hn.1 hk)
  ·obtain ⟨h1,h2⟩:=ho j hji
   rw [putsIf_add hc hc' ho L _ hn.2 (by simpa [Ne.symm hji] using hi) fun k hk=>hd k (List.mem_cons_of_mem _ hk),h1]
   cases hcj:c j
   ·rfl
   ·simp [h2 hcj]
theorem putsIf_eval (vs:Nat→Value) (c:Nat→Bool) {x:Operand}:∀ (L:List Nat) (a:Act),(∀ j∈L,c j=true→∀ d,dstOf ops j=some d→x≠.tmp d)→(putsIf ops vs c L a).eval x=a.eval x
 | [],_,_=>rfl
 | j::L,a,h=>by
  simp only [putsIf]
  rw [putsIf_eval vs c L _ fun k hk=>h k (List.mem_cons_of_mem _ hk)]
  cases hc:c j
  ·rfl
  ·simp only [if_true]
   exact Act.eval_put (h j (by simp) hc)
theorem putsIf_at (vs:Nat→Value) (c:Nat→Bool) {i:Nat} {d:Tmp} (hi:c i=true) (hd:dstOf ops i=some d):∀ (L:List Nat) (a:Act),L.Nodup→i∈L→(∀ j∈L,j≠i→dstOf ops j≠some d)→d<a.tmps.size→(putsIf ops vs c L a).eval (.tmp d)=vs i
 | [],_,_,hm,_,_=>by simp at hm
 | j::L,a,hn,hm,ho,hs=>by
  rw [List.nodup_cons] at hn
  simp only [putsIf]
  by_cases hji:j=i
  ·subst hji
   simp only [hi,if_true]
   rw [putsIf_eval]
   ·simp [hd,Act.put,Act.eval,Array.getD,hs]
   ·intro k hk _ d' hd' e
    injection e with e
    subst e
    exact ho k (List.mem_cons_of_mem _ hk) (by rintro rfl;exact hn.1 hk) hd'
  ·rw [putsIf_at vs c hi hd L _ hn.2 (by simpa [Ne.symm hji] using hm) fun k hk=>ho k (List.mem_cons_of_mem _ hk)]
   cases c j
   ·exact hs
   ·simp only [if_true]
    cases dstOf ops j<;>simp [Act.put,hs]
def growable (ops:Array Oper) (n:Nat):Bool :=
 (List.range ops.size).all fun i=>match ops[i]? with
  | none=>true
  | some o=>o.guard.isNone&&(o.after.all fun e=>!Region.binds .any e||decide (e.on<i))&&(match o.dst with|none=>true|some d=>decide (d<n)) &&
   (List.range ops.size).all fun j=>j == i||(match o.dst with|none=>true|some d=>dstOf ops j != some d)
theorem growable_spec {n:Nat} (h:growable ops n=true) {i:Nat} {o:Oper} (ho:ops[i]?=some o) :
  o.guard=none∧(∀ e∈o.after,Region.binds .any e=true→e.on<i)∧(∀ d,o.dst=some d→d<n∧∀ j,j<ops.size→j≠i→dstOf ops j≠some d):=by
 have hi:i<ops.size:=by
  rcases Nat.lt_or_ge i ops.size with h1|h1
  ·exact h1
  ·rw [Array.getElem?_eq_none h1] at ho;cases ho
 have:=List.all_eq_true.1 h i (List.mem_range.2 hi)
 simp only [ho,Bool.and_eq_true,Option.isNone_iff_eq_none] at this
 obtain ⟨⟨⟨h1,h2⟩,h3⟩,h4⟩:=this
 refine ⟨h1,fun e he hb=>?_,fun d hd=>?_⟩
 ·rw [Array.all_eq_true_iff_forall_mem] at h2
  simpa [hb] using h2 e he
 ·rw [hd] at h3 h4
  refine ⟨by simpa using h3,fun j hj hji=>?_⟩
  have:=List.all_eq_true.1 h4 j (List.mem_range.2 hj)
  simpa [hji] using this
theorem mem_ready_b {md:Region.Mode} {listed:Array Bool} {i:Nat}:i∈Region.ready md ops listed↔i<ops.size∧listed.getD i true=false∧∃ o,ops[i]?=some o∧∀ e∈o.after,Region.binds md e=true→listed.getD e.on false=true:=by
 unfold Region.ready
 rw [List.mem_filter,List.mem_range]
 refine and_congr_right fun hi=>?_
 have ho:ops[i]?=some ops[i]:=Array.getElem?_eq_getElem hi
 rw [ho,Option.map_some,Option.getD_some,Bool.and_eq_true,Bool.not_eq_true']
 refine and_congr_right fun _=>?_
 rw [Array.all_eq_true_iff_forall_mem]
 constructor
 ·intro h
  refine ⟨_,rfl,fun e he hb=>?_⟩
  have:=h e he
  simpa [hb] using this
 ·rintro ⟨o,h1,h2⟩ e he
  injection h1 with h1
  subst h1
  cases hb:Region.binds md e
  ·rfl
  ·simp [h2 e he hb]
theorem getD_set_nb (l:Array Bool) {i j:Nat} (v b:Bool) (h:j≠i):(l.setIfInBounds i v).getD j b=l.getD j b:=by
 rw [Array.getD_eq_getD_getElem?,Array.getD_eq_getD_getElem?,Array.getElem?_setIfInBounds_ne (Ne.symm h)]
theorem getD_both {l:Array Bool} {i:Nat} (h:i<l.size) (b c:Bool):l.getD i b=l.getD i c:=by simp [Array.getD,h]
theorem wp_region_state {id:Nat} {a:Act} {w:World} (hm:P.follows .mixedOrders=true) (hg:growable ops a.tmps.size=true)
  (S:(Nat→Bool)→(Nat→Value)→World→Prop) (h0:S (fun _=>false) (fun _=>undef) { w with drawn:=w.drawn+1 })
  (hstep:∀ (i:Nat) (o:Oper),ops[i]?=some o→∀ (c:Nat→Bool) (vs:Nat→Value) (w':World) (b:Act),S c vs w'→c i=false →
   (∀ e∈o.after,Region.binds .any e=true→c e.on=true) →
   (∀ j d,c j=true→dstOf ops j=some d→b.eval (.tmp d)=vs j) →
   (∀ x,(∀ j,j<ops.size→∀ d,dstOf ops j=some d→x≠.tmp d)→b.eval x=a.eval x) →
   o.wp P b w' (fun b' w''=>∃ v,b'=b.put o.dst v∧S (fun j=>if j=i then true else c j) (fun j=>if j=i then v else vs j) w'') Q)
  (hend:∀ (c:Nat→Bool) (vs:Nat→Value) (w':World),S c vs w'→(∀ j,j<ops.size→c j=true)→Q .normal (putsIf ops vs (fun _=>true) (List.range ops.size) a) w') :
  (Code.region id ops true).wp P Q a w:=by
 refine wp_region_any hm ?_
 refine wpAny_inv (P:=P) (Q:=Q) (md:=.any) (fun listed b w'=>listed.size=ops.size∧∃ vs:Nat→Value,b=putsIf ops vs (fun j=>listed.getD j false) (List.range ops.size) a∧S (fun j=>listed.getD j false) vs w') ?_ ?_ ?_ _ _ _ _ ?_ ?_
 ·rintro listed b w' ⟨hs,vs,rfl,hS⟩ hr
  have hlisted:∀ k j,j<k→j<ops.size→listed.getD j false=true:=by
   intro k
   induction k with
   | zero=>intro j hj;omega
   | succ k ih =>
    intro j hj hjo
    rcases Nat.lt_or_ge j k with h1|h1
    ·exact ih j h1 hjo
    ·obtain rfl:j=k:=by omega
     cases hb:listed.getD j false
     ·exfalso
      have hm:j∈Region.ready .any ops listed:=by
       have ho:ops[j]?=some ops[j]:=Array.getElem?_eq_getElem hjo
       obtain ⟨_,h2,_⟩:=growable_spec hg ho
       exact mem_ready_b.2 ⟨hjo,(getD_both (by omega) _ _).trans hb,_,ho,fun e he hbd=>ih e.on (h2 e he hbd) (by have:=h2 e he hbd;omega)⟩
      rw [hr] at hm
      simp at hm
     ·rfl
  have hc:putsIf ops vs (fun j=>listed.getD j false) (List.range ops.size) a=putsIf ops vs (fun _=>true) (List.range ops.size) a :=
   (putsIf_congr _ _ fun j hj=>⟨(hlisted (j+1) j (by omega) (List.mem_range.1 hj)).symm,fun _=>rfl⟩).symm
  rw [hc]
  exact hend _ vs w' hS fun j hj=>hlisted (j+1) j (by omega) hj
 ·rintro listed b w' ⟨hs,vs,rfl,hS⟩ i hi
  obtain ⟨hio,hn1,o,ho,hn2⟩:=mem_ready_b.1 hi
  obtain ⟨g1,g2,g3⟩:=growable_spec hg ho
  have hil:i<listed.size:=by omega
  have hdis:∀ j∈List.range ops.size,j≠i→∀ d,dstOf ops i=some d→dstOf ops j≠some d:=fun j hj hji d hd =>
   (g3 d (by simpa [dstOf,ho] using hd)).2 j (List.mem_range.1 hj) hji
  have hb1:listed.getD i false=false:=(getD_both hil _ _).trans hn1
  have hset:(fun j=>(listed.setIfInBounds i true).getD j false)=fun j=>if j=i then true else listed.getD j false:=by
   funext j
   by_cases hji:j=i
   ·subst hji;simp [Array.getD,hil]
   ·rw [if_neg hji];exact getD_set_nb _ _ _ hji
  unfold wpOp
  simp only [ho]
  have hw:Region.wanted o (yielded ops (putsIf ops vs (fun j=>listed.getD j false) (List.range ops.size) a).tmps)=true:=by simp [Region.wanted,g1]
  rw [if_pos hw]
  refine .inl (Oper.wp_mono ?_ (hstep i o ho _ vs w' _ hS hb1 hn2 (fun j d hj hd=>?_) (fun x hx=>putsIf_eval _ _ _ _ fun j hj _ d hd=>hx j (List.mem_range.1 hj) d hd)))
  ·rintro b' w'' ⟨v,rfl,h1⟩
   refine ⟨by simp [hs],fun j=>if j=i then v else vs j,?_,?_⟩
   ·have hadd:=putsIf_add (ops:=ops) (vs:=vs) (vs':=fun j=>if j=i then v else vs j) (c:=fun j=>listed.getD j false) (c':=fun j=>(listed.setIfInBounds i true).getD j false) (i:=i)
     hb1 (by simp [Array.getD,hil]) (fun j hji=>⟨getD_set_nb _ _ _ hji,fun _=>by simp [hji]⟩) (List.range ops.size) a List.nodup_range (List.mem_range.2 hio) hdis
    rw [hadd]
    simp [dstOf,ho]
   ·rw [hset];exact h1
  ·have hjo:j<ops.size:=by
    rcases Nat.lt_or_ge j ops.size with h|h
    ·exact h
    ·exfalso
     have:¬ j<listed.size:=by omega
     simp [Array.getD,this] at hj
   have hoe:ops[j]?=some ops[j]:=Array.getElem?_eq_getElem hjo
   obtain ⟨_,_,k3⟩:=growable_spec hg hoe
   have hd':ops[j].dst=some d:=by simpa [dstOf,hoe] using hd
   exact putsIf_at vs _ hj hd _ _ List.nodup_range (List.mem_range.2 hjo) (fun k hk hkj=>(k3 d hd').2 k (List.mem_range.1 hk) hkj) (k3 d hd').1
 ·rintro listed b w' ⟨hs,_⟩
  exact hs
 ·have hz:(fun j=>(Array.replicate ops.size false).getD j false)=fun _=>false:=by
   funext j
   simp [Array.getD]
  refine ⟨by simp,fun _=>undef,?_,?_⟩
  ·have h0:∀ (L:List Nat) (b:Act),putsIf ops (fun _=>undef) (fun _=>false) L b=b:=by
    intro L
    induction L with
    | nil=>intro b;rfl
    | cons j L ih=>intro b;simp only [putsIf];exact ih b
   rw [hz]
   exact (h0 _ _).symm
  ·rw [hz];exact h0
 ·refine Nat.le_trans List.countP_le_length ?_
  simp
def waits (ops:Array Oper) (i j:Nat):Bool:=match ops[i]? with
 | none=>false
 | some o=>o.after.any fun e=>e.on == j&&Region.binds .any e
def outer (ops:Array Oper) (t:Tmp):Bool:=(List.range ops.size).all fun j=>dstOf ops j != some t
def putL:List (Option Tmp)→(Nat→Value)→Nat→Act→Act
 | [],_,_,a=>a
 | d::r,vs,k,a=>putL r vs (k+1) (a.put d (vs k))
theorem putsIf_putL (vs:Nat→Value):∀ (n k:Nat) (a:Act),putsIf ops vs (fun _=>true) (List.range' k n) a=putL ((List.range' k n).map (dstOf ops)) vs k a
 | 0,_,_=>rfl
 | n+1,k,a=>by
  simp only [List.range'_succ,putsIf,List.map_cons,putL,if_true]
  exact putsIf_putL vs n (k+1) _
theorem wp_region_steps {id:Nat} {a:Act} {w:World} (hm:P.follows .mixedOrders=true) (hg:growable ops a.tmps.size=true)
  (S:(Nat→Bool)→(Nat→Value)→World→Prop) (h0:S (fun _=>false) (fun _=>undef) { w with drawn:=w.drawn+1 })
  (hstep:∀ (i:Nat) (o:Oper),ops[i]?=some o→∀ (c:Nat→Bool) (vs:Nat→Value) (w':World) (b:Act),S c vs w'→c i=false →
   (∀ j,waits ops i j=true→c j=true)→(∀ j d,c j=true→dstOf ops j=some d→b.eval (.tmp d)=vs j)→(∀ t,outer ops t=true→b.eval (.tmp t)=a.eval (.tmp t)) →
   o.wp P b w' (fun b' w''=>∃ v,b'=b.put o.dst v∧S (fun j=>if j=i then true else c j) (fun j=>if j=i then v else vs j) w'') Q)
  (ds:List (Option Tmp)) (hds:(List.range ops.size).map (dstOf ops)=ds)
  (hend:∀ (c:Nat→Bool) (vs:Nat→Value) (w':World),S c vs w'→(∀ j,j<ops.size→c j=true)→Q .normal (putL ds vs 0 a) w') :
  (Code.region id ops true).wp P Q a w:=by
 have hend':∀ (c:Nat→Bool) (vs:Nat→Value) (w':World),S c vs w'→(∀ j,j<ops.size→c j=true)→Q .normal (putsIf ops vs (fun _=>true) (List.range ops.size) a) w':=fun c vs w' h1 h2=>by
  have:=hend c vs w' h1 h2
  rw [List.range_eq_range',putsIf_putL,← List.range_eq_range',hds]
  exact this
 refine wp_region_state hm hg S h0 (fun i o ho c vs w' b hS hci hbd hev hout=>hstep i o ho c vs w' b hS hci (fun j hj=>?_) hev (fun t ht=>hout _ fun j hj d hd e=>?_)) hend'
 ·unfold waits at hj
  rw [ho] at hj
  simp only [Array.any_eq_true] at hj
  obtain ⟨k,hk,h1⟩:=hj
  rw [Bool.and_eq_true,beq_iff_eq] at h1
  have:=hbd _ (Array.getElem_mem hk) h1.2
  rwa [h1.1] at this
 ·injection e with e
  subst e
  have:=List.all_eq_true.1 ht j (List.mem_range.2 hj)
  rw [hd] at this
  simp at this
theorem wp_of_run {o:Oper} {b:Act} {w w':World} {K:Act→World→Prop} (v:Value) (hrun:(execOp b.eval o).run P w=.ok (.value v) w') (h:K (b.put o.dst v) w'):o.wp P b w K Q:=by
 unfold Oper.wp
 rw [hrun,Oper.upon_value]
 exact h
theorem wp_of_skip {o:Oper} {b:Act} {w w':World} {K:Act→World→Prop} (hrun:(execOp b.eval o).run P w=.ok .skip w') (h:K (b.put o.dst undef) w'):o.wp P b w K Q:=by
 unfold Oper.wp
 rw [hrun,Oper.upon_skip]
 exact h
theorem wp_of_call {o:Oper} {b:Act} {w w':World} {K:Act→World→Prop} {f:FuncId} {args:Array Value} (hrun:(execOp b.eval o).run P w=.ok (.enter f args) w')
  (h:Calls P f args w' fun e w''=>∃ v,e=.returned v∧K (b.put o.dst v) w''):o.wp P b w K Q:=by
 unfold Oper.wp
 rw [hrun,Oper.upon_enter]
 refine h.mono ?_
 rintro e w'' ⟨v,rfl,hK⟩
 exact hK
theorem wp_move {o:Oper} {b:Act} {w:World} {K:Act→World→Prop} (x:Operand) (ho:o.op=.move x) {v:Value} (hx:b.eval x=v) (h:K (b.put o.dst v) w):o.wp P b w K Q:=by
 refine wp_of_run v ?_ h
 unfold execOp
 simp [ho,hx,Sem.run_pure]
theorem wp_call2 {o:Oper} {b:Act} {w:World} {K:Act→World→Prop} {f:FuncId} {x y:Operand} {ts:Array TypeId} (ho:o.op=.call { callee:=.value (.func f),args:=#[x,y],argTypes:=ts }) {u v:Value} (hx:b.eval x=u) (hy:b.eval y=v)
  (hent:(callFunc f #[u,v]).run P w=.ok (.enter f #[u,v]) w)
  (h:Calls P f #[u,v] w fun e w''=>∃ r,e=.returned r∧K (b.put o.dst r) w''):o.wp P b w K Q:=by
 refine wp_of_call ?_ h
 have hf:b.eval (.func f)=.func (.func f) #[] #[]:=rfl
 unfold execOp
 simp only [ho,resolve,invoke,hx,hy,hf,Deferred.ofValue,Array.empty_append,Array.append_empty,hent,List.map_toArray,List.map_cons,List.map_nil,Sem.run_bind,Sem.run_pure,Result.andThen_ok]
end
end Go.Proofs.YtibnehaibgbliaaGreat
namespace Go.Proofs.YtibnehaibgbliaaGreat.Opr
open Go.RowKit Go.Proofs.YtibnehaibgbliaaGreat
section
variable {P:Program} {Q:Exit→Act→World→Prop}
theorem run_ld {o:Oper} {b:Act} (W:World) (x:Operand) {t:TypeId} (ho:o.op=.load t x) {u r:Value} (hx:b.eval x=u) (hr:(Instr.loadAt t u).run P W=.ok r W):(execOp b.eval o).run P W=.ok (.value r) W:=by
 unfold execOp
 simp only [ho,hx]
 simp [hr]
end
end Go.Proofs.YtibnehaibgbliaaGreat.Opr
namespace Go.Proofs.YtibnehaibgbliaaGreat.Mf
open Go.RowKit Go.Proofs.YtibnehaibgbliaaGreat
theorem n_calls (w:World) {gb gc gB k e:Nat} {l:List UInt8} (hb:Blk w gb 131 #[.pointer (some ⟨gc,0,none⟩)]) (h:Nu.Cur 169 w gc gB l k e) (hl:l.length≤1000000000000000) :
  Calls Tryz.prog 67 #[.pointer (some ⟨gb,0,none⟩)] w (Nu.CurRet 169 w gc gB l (.int .i64 ((Nu.curNum l k e 1099511627775).1:Nat)) (Nu.curNum l k e 1099511627775).2.1 (Nu.curNum l k e 1099511627775).2.2):=by
 have c0:w.cell? ⟨gb,0,none⟩=some (.pointer (some ⟨gc,0,none⟩)):=hb.cell 0
 have HN:=Jh (Nu.curNum_calls w h hl 1099511627775 (by decide))
 clear hb h
 go_enter Tryz.func67,Tryz.ntmps67
 go_wp2_with fail
 refine HN.out.mono ?_
 rintro e1 w1 ⟨rfl,h1,h2⟩
 clear HN
 go_wp2
 go_ret
 exact ⟨rfl,h1,h2⟩
structure Cv (W:World) (gb gc:Nat) (l:List UInt8) (k e:Nat):Prop where
 cur:Nu.Cur 169 W gc gc l k e
 box:Blk W gb 131 #[.pointer (some ⟨gc,0,none⟩)]
 ne:gc<gb
theorem Cv.call {W W':World} {gb gc k e k' e':Nat} {l:List UInt8} (h:Cv W gb gc l k e) (hc:Nu.Cur 169 W' gc gc l k' e') (ho:Only gc W W'):Cv W' gb gc l k' e':=⟨hc,ho.blk h.box (by have:=h.ne;omega),h.ne⟩
theorem Cv.below {W W':World} {gb gc k e B:Nat} {l:List UInt8} (h:Cv W gb gc l k e) (hb:Below B W W') (hB:gb<B):Cv W' gb gc l k e:=⟨cur_low h.cur hb (by have:=h.ne;omega),h.box.below hb hB,h.ne⟩
theorem Cv.belowS {W W':World} {gb gc k e:Nat} {l:List UInt8} (h:Cv W gb gc l k e) (hb:Below W.heap.size W W'):Cv W' gb gc l k e:=h.below hb h.box.lt
theorem Cv.set {W:World} {gb gc k e g:Nat} {l:List UInt8} (h:Cv W gb gc l k e) (hg:gb<g) (i:Nat) (v:Value):Cv (W.setCell ⟨g,i,none⟩ v) gb gc l k e :=
 ⟨h.cur.far ((Only.refl g W).setCell (.inl rfl) v) (by have:=h.ne;omega) (by have:=h.ne;omega),h.box.far (p:=⟨g,i,none⟩) (by show gb≠g;omega) v,h.ne⟩
def zE9:Array Value:=#[.string ⟨#[]⟩,.int .i64 0,.string ⟨#[]⟩,.int .i64 0,.int .i64 0,.int .i64 0,.int .i64 0,.int .u32 0,.int .i64 0]
def cN:Nat→Nat:=fun r=>(#[1,3,5,7,9,11,13,15,18]:Array Nat).getD r 99
def isC (i:Nat):Bool:=[1,3,5,7,9,11,13,15,18].contains i
structure DeS (val:Nat→Value) (P:Nat→Nat × Nat) (gb gc:Nat) (t:List UInt8) (wr:World) (V:Array Value) (cc:Nat→Bool) (vs:Nat→Value) (W:World):Prop where
 vals:∀ i,cc i=true→i<20→vs i=val i
 cv:∃ j,j≤9∧(∀ r,r<9→(cc (cN r)=true↔r<j))∧Cv W gb gc t (P j).1 (P j).2
 fr:Only gc wr W
 ord:cc 21=true→cc 20=true
 box:cc 20=true→∃ gx,vs 20=.pointer (some ⟨gx,0,none⟩)∧wr.heap.size≤gx∧gb<gx∧Blk W gx 85 (if cc 21 then V else zE9)
section
variable {val:Nat→Value} {P:Nat→Nat × Nat} {gb gc:Nat} {t:List UInt8} {wr:World} {V:Array Value} {cc:Nat→Bool} {vs:Nat→Value} {W W':World}
theorem cN_ne (i r:Nat) (hi:isC i=false) (hr:r<9):cN r≠i:=by
 intro e
 subst e
 have:∀ r,r<9→isC (cN r)=true:=by decide
 rw [this r hr] at hi
 cases hi
theorem cN_inj:∀ r,r<9→∀ q,q<9→cN r=cN q→r=q:=by decide
theorem cN_lt:∀ r,r<9→cN r<20:=by decide
theorem DeS.step (h:DeS val P gb gc t wr V cc vs W) (i:Nat) (hi:i<20) (hc:isC i=false):DeS val P gb gc t wr V (fun j=>if j=i then true else cc j) (fun j=>if j=i then val i else vs j) W:=by
 refine ⟨fun j hj hj2=>?_,?_,h.fr,fun hq=>by rw [if_neg (by omega)] at hq ⊢;exact h.ord hq,fun hb=>?_⟩
 ·by_cases e:j=i
  ·subst e;simp
  ·simp only [if_neg e] at hj ⊢;exact h.vals j hj hj2
 ·obtain ⟨j,h9,h1,h2⟩:=h.cv
  exact ⟨j,h9,fun r hr=>by rw [if_neg (cN_ne i r hc hr)];exact h1 r hr,h2⟩
 ·rw [if_neg (by omega)] at hb
  obtain ⟨gx,h1,h2⟩:=h.box hb
  exact ⟨gx,by simp only [if_neg (show (20:Nat)≠i by omega)];exact h1,by simp only [if_neg (show (21:Nat)≠i by omega)];exact h2⟩
theorem DeS.at_ (h:DeS val P gb gc t wr V cc vs W) (r:Nat) (hr:r<9) (hc:cc (cN r)=false) (hp:0<r→cc (cN (r-1))=true):Cv W gb gc t (P r).1 (P r).2:=by
 obtain ⟨j,-,h1,h2⟩:=h.cv
 have e:j=r:=by
  have k1:¬ r<j:=fun hh=>by have:=(h1 r hr).2 hh;rw [hc] at this;cases this
  rcases Nat.eq_zero_or_pos r with h0|h0
  ·omega
  ·have:=(h1 (r-1) (by omega)).1 (hp h0)
   omega
 rw [← e];exact h2
theorem DeS.call (h:DeS val P gb gc t wr V cc vs W) (r:Nat) (hr:r<9) (hc:cc (cN r)=false) (hp:0<r→cc (cN (r-1))=true) (hcu:Nu.Cur 169 W' gc gc t (P (r+1)).1 (P (r+1)).2) (ho:Only gc W W') :
  DeS val P gb gc t wr V (fun j=>if j=cN r then true else cc j) (fun j=>if j=cN r then val (cN r) else vs j) W':=by
 have hcv:=h.at_ r hr hc hp
 have hl:=cN_lt r hr
 refine ⟨fun j hj hj2=>?_,⟨r+1,by omega,fun q hq=>?_,hcv.call hcu ho⟩,h.fr.trans ho,fun hq=>by rw [if_neg (by omega)] at hq ⊢;exact h.ord hq,fun hb=>?_⟩
 ·by_cases e:j=cN r
  ·subst e;simp
  ·simp only [if_neg e] at hj ⊢;exact h.vals j hj hj2
 ·obtain ⟨j,-,h1,_⟩:=h.cv
  have k1:¬ r<j:=fun hh=>by have:=(h1 r hr).2 hh;rw [hc] at this;cases this
  by_cases e:q=r
  ·subst e;simp
  ·rw [if_neg (fun e'=>e (cN_inj q hq r hr e')),h1 q hq]
   have:r≤j:=by
    rcases Nat.eq_zero_or_pos r with h0|h0
    ·omega
    ·have:=(h1 (r-1) (by omega)).1 (hp h0);omega
   omega
 ·rw [if_neg (by omega)] at hb
  obtain ⟨gx,h1,h2,h3,h4⟩:=h.box hb
  refine ⟨gx,by simp only [if_neg (show (20:Nat)≠cN r by omega)];exact h1,h2,h3,?_⟩
  simp only [if_neg (show (21:Nat)≠cN r by omega)]
  exact ho.blk h4 (by have:=hcv.ne;omega)
theorem DeS.made (h:DeS val P gb gc t wr V cc vs W) (hc:cc 21=false):DeS val P gb gc t wr V (fun j=>if j=20 then true else cc j) (fun j=>if j=20 then .pointer (some ⟨W.heap.size,0,none⟩) else vs j) (W.alloc (.cells zE9 85)):=by
 refine ⟨fun j hj hj2=>?_,?_,h.fr.alloc _,fun _=>if_pos rfl,fun _=>?_⟩
 ·have e:j≠20:=by omega
  simp only [if_neg e] at hj ⊢;exact h.vals j hj hj2
 ·obtain ⟨j,h9,h1,h2⟩:=h.cv
  exact ⟨j,h9,fun r hr=>by rw [if_neg (by have:=cN_lt r hr;omega)];exact h1 r hr,h2.belowS ((Below.refl _ _).alloc (Nat.le_refl _) _)⟩
 ·obtain ⟨j,_,_,h2⟩:=h.cv
  exact ⟨W.heap.size,by simp,h.fr.size,h2.box.lt,by simp only [if_neg (show (21:Nat)≠20 by omega),hc];exact Blk.new _ _ _⟩
def put9 (W:World) (g:Nat) (v0 v1 v2 v3 v4 v5 v6 v7 v8:Value):World:=((((((((W.setCell ⟨g,0,none⟩ v0).setCell ⟨g,1,none⟩ v1).setCell ⟨g,2,none⟩ v2).setCell ⟨g,3,none⟩ v3).setCell ⟨g,4,none⟩ v4).setCell ⟨g,5,none⟩ v5).setCell ⟨g,6,none⟩ v6).setCell ⟨g,7,none⟩ v7).setCell ⟨g,8,none⟩ v8
theorem put9_blk {W:World} {g:Nat} {T:TypeId} (h:Blk W g T zE9) (v0 v1 v2 v3 v4 v5 v6 v7 v8:Value):Blk (put9 W g v0 v1 v2 v3 v4 v5 v6 v7 v8) g T #[v0,v1,v2,v3,v4,v5,v6,v7,v8]:=by
 have:=((((((((h.set_ 0 v0).set_ 1 v1).set_ 2 v2).set_ 3 v3).set_ 4 v4).set_ 5 v5).set_ 6 v6).set_ 7 v7).set_ 8 v8
 simpa [put9,zE9] using this
theorem put9_cv {W:World} {gb gc k e g:Nat} {l:List UInt8} (h:Cv W gb gc l k e) (hg:gb<g) (v0 v1 v2 v3 v4 v5 v6 v7 v8:Value):Cv (put9 W g v0 v1 v2 v3 v4 v5 v6 v7 v8) gb gc l k e :=
 ((((((((h.set hg 0 v0).set hg 1 v1).set hg 2 v2).set hg 3 v3).set hg 4 v4).set hg 5 v5).set hg 6 v6).set hg 7 v7).set hg 8 v8
theorem put9_only {W w:World} {gc g:Nat} (h:Only gc w W) (hg:w.heap.size≤g) (v0 v1 v2 v3 v4 v5 v6 v7 v8:Value):Only gc w (put9 W g v0 v1 v2 v3 v4 v5 v6 v7 v8) :=
 ((((((((h.setCell (p:=⟨g,0,none⟩) (.inr hg) v0).setCell (p:=⟨g,1,none⟩) (.inr hg) v1).setCell (p:=⟨g,2,none⟩) (.inr hg) v2).setCell (p:=⟨g,3,none⟩) (.inr hg) v3).setCell (p:=⟨g,4,none⟩) (.inr hg) v4).setCell (p:=⟨g,5,none⟩) (.inr hg) v5).setCell (p:=⟨g,6,none⟩) (.inr hg) v6).setCell (p:=⟨g,7,none⟩) (.inr hg) v7).setCell (p:=⟨g,8,none⟩) (.inr hg) v8
theorem DeS.put {v0 v1 v2 v3 v4 v5 v6 v7 v8:Value} (h:DeS val P gb gc t wr #[v0,v1,v2,v3,v4,v5,v6,v7,v8] cc vs W) {gx:Nat} (hc:cc 21=false) (h20:cc 20=true) (hv:vs 20=.pointer (some ⟨gx,0,none⟩)) (v:Value) :
  DeS val P gb gc t wr #[v0,v1,v2,v3,v4,v5,v6,v7,v8] (fun j=>if j=21 then true else cc j) (fun j=>if j=21 then v else vs j) (put9 W gx v0 v1 v2 v3 v4 v5 v6 v7 v8):=by
 obtain ⟨g,h1,h2,h3,h4⟩:=h.box h20
 rw [hv] at h1
 injection h1 with h1
 injection h1 with h1
 injection h1 with h1
 subst h1
 simp only [hc] at h4
 refine ⟨fun j hj hj2=>?_,?_,put9_only h.fr h2 _ _ _ _ _ _ _ _ _,fun _=>by rw [if_neg (by omega)];exact h20,fun _=>⟨gx,by simp [hv],h2,h3,?_⟩⟩
 ·have e:j≠21:=by omega
  simp only [if_neg e] at hj ⊢;exact h.vals j hj hj2
 ·obtain ⟨j,h9,k1,k2⟩:=h.cv
  exact ⟨j,h9,fun r hr=>by rw [if_neg (by have:=cN_lt r hr;omega)];exact k1 r hr,put9_cv k2 h3 _ _ _ _ _ _ _ _ _⟩
 ·simp only [if_true]
  exact put9_blk h4 _ _ _ _ _ _ _ _ _
theorem DeS.fin (h:DeS val P gb gc t wr V cc vs W) (hall:∀ j,j<22→cc j=true):∃ gx,vs 20=.pointer (some ⟨gx,0,none⟩)∧wr.heap.size≤gx∧gb<gx∧Blk W gx 85 V∧Cv W gb gc t (P 9).1 (P 9).2∧Only gc wr W:=by
 obtain ⟨gx,h1,h2,h3,h4⟩:=h.box (hall 20 (by omega))
 rw [hall 21 (by omega),if_pos rfl] at h4
 obtain ⟨j,h9,k1,k2⟩:=h.cv
 have hj:¬ j<9:=fun hh=>by
  have:=(k1 j hh).1 (hall _ (by have:=cN_lt j hh;omega))
  omega
 obtain rfl:j=9:=by omega
 exact ⟨gx,h1,h2,h3,h4,k2,h.fr⟩
end
section
variable {Q:Exit→Act→World→Prop} {P:Program}
theorem wp_call0v {o:Oper} {b:Act} {w:World} {K:Act→World→Prop} {f:FuncId} {tv:Operand} {ts:Array TypeId} {c:Value} (ho:o.op=.call { callee:=.value tv,args:=#[],argTypes:=ts }) (hf:b.eval tv=.func (.func f) #[] #[c])
  (hent:(callFunc f #[c]).run P w=.ok (.enter f #[c]) w)
  (h:Calls P f #[c] w fun e w''=>∃ r,e=.returned r∧K (b.put o.dst r) w''):o.wp P b w K Q:=by
 refine wp_of_call ?_ h
 unfold execOp
 simp only [ho,resolve,invoke,hf,Deferred.ofValue,Array.empty_append,Array.append_empty,hent,List.map_toArray,List.map_cons,List.map_nil,Sem.run_bind,Sem.run_pure,Result.andThen_ok]
end
theorem run_al9 {o:Oper} {b:Act} (W:World) (ho:o.op=.alloc 85):(execOp b.eval o).run Tryz.prog W=.ok (.value (.pointer (some ⟨W.heap.size,0,none⟩))) (W.alloc (.cells zE9 85)):=by
 unfold execOp
 simp [go_sem,ho,zE9]
theorem run_cv32 {o:Oper} {b:Act} (W:World) (ho:o.op=.convert 3 83 (.tmp 53)) {n:Int} (hx:b.eval (.tmp 53)=.int .i64 n) (hw:IntKind.u32.wrap n=n):(execOp b.eval o).run Tryz.prog W=.ok (.value (.int .u32 n)) W:=by
 have e0:b.tmps[53]?.getD undef=.int .i64 n:=by simpa [Act.eval] using hx
 unfold execOp
 simp [go_sem,ho,e0,hw]
theorem run_bd9 {o:Oper} {b:Act} (W:World) (ho:o.op=.build 85 #[(0,.tmp 39),(1,.tmp 41),(2,.tmp 43),(3,.tmp 45),(4,.tmp 47),(5,.tmp 49),(6,.tmp 51),(7,.tmp 54),(8,.tmp 56)]) (a:ByteArray) (n1:Int) (c:ByteArray) (n2 n3 n4 n5 n6 n7:Int)
  (h0:b.eval (.tmp 39)=.string a) (h1:b.eval (.tmp 41)=.int .i64 n1) (h2:b.eval (.tmp 43)=.string c) (h3:b.eval (.tmp 45)=.int .i64 n2) (h4:b.eval (.tmp 47)=.int .i64 n3) (h5:b.eval (.tmp 49)=.int .i64 n4) (h6:b.eval (.tmp 51)=.int .i64 n5) (h7:b.eval (.tmp 54)=.int .u32 n6) (h8:b.eval (.tmp 56)=.int .i64 n7) :
  (execOp b.eval o).run Tryz.prog W=.ok (.value (.agg #[.string a,.int .i64 n1,.string c,.int .i64 n2,.int .i64 n3,.int .i64 n4,.int .i64 n5,.int .u32 n6,.int .i64 n7])) W:=by
 have e0:b.tmps[39]?.getD undef=.string a:=by simpa [Act.eval] using h0
 have e1:b.tmps[41]?.getD undef=.int .i64 n1:=by simpa [Act.eval] using h1
 have e2:b.tmps[43]?.getD undef=.string c:=by simpa [Act.eval] using h2
 have e3:b.tmps[45]?.getD undef=.int .i64 n2:=by simpa [Act.eval] using h3
 have e4:b.tmps[47]?.getD undef=.int .i64 n3:=by simpa [Act.eval] using h4
 have e5:b.tmps[49]?.getD undef=.int .i64 n4:=by simpa [Act.eval] using h5
 have e6:b.tmps[51]?.getD undef=.int .i64 n5:=by simpa [Act.eval] using h6
 have e7:b.tmps[54]?.getD undef=.int .u32 n6:=by simpa [Act.eval] using h7
 have e8:b.tmps[56]?.getD undef=.int .i64 n7:=by simpa [Act.eval] using h8
 unfold execOp
 simp [go_sem,ho,e0,e1,e2,e3,e4,e5,e6,e7,e8]
theorem run_st9 {o:Oper} {b:Act} (W:World) {gx:Nat} (ho:o.op=.store 85 (.tmp 10) (.tmp 57)) (a:ByteArray) (n1:Int) (c:ByteArray) (n2 n3 n4 n5 n6 n7:Int) (h0:b.eval (.tmp 10)=.pointer (some ⟨gx,0,none⟩)) (h1:b.eval (.tmp 57)=.agg #[.string a,.int .i64 n1,.string c,.int .i64 n2,.int .i64 n3,.int .i64 n4,.int .i64 n5,.int .u32 n6,.int .i64 n7]) (hb:Blk W gx 85 zE9) :
  (execOp b.eval o).run Tryz.prog W=.ok .skip (put9 W gx (.string a) (.int .i64 n1) (.string c) (.int .i64 n2) (.int .i64 n3) (.int .i64 n4) (.int .i64 n5) (.int .u32 n6) (.int .i64 n7)):=by
 have e0:b.tmps[10]?.getD undef=.pointer (some ⟨gx,0,none⟩):=by simpa [Act.eval] using h0
 have e1:b.tmps[57]?.getD undef=.agg #[.string a,.int .i64 n1,.string c,.int .i64 n2,.int .i64 n3,.int .i64 n4,.int .i64 n5,.int .u32 n6,.int .i64 n7]:=by simpa [Act.eval] using h1
 obtain ⟨z0,z1,z2,z3,z4,z5,z6,z7,z8⟩:W.cell? ⟨gx,0,none⟩=some (.string ⟨#[]⟩)∧W.cell? ⟨gx,1,none⟩=some (.int .i64 0)∧W.cell? ⟨gx,2,none⟩=some (.string ⟨#[]⟩)∧W.cell? ⟨gx,3,none⟩=some (.int .i64 0)∧W.cell? ⟨gx,4,none⟩=some (.int .i64 0)∧W.cell? ⟨gx,5,none⟩=some (.int .i64 0)∧W.cell? ⟨gx,6,none⟩=some (.int .i64 0)∧W.cell? ⟨gx,7,none⟩=some (.int .u32 0)∧W.cell? ⟨gx,8,none⟩=some (.int .i64 0):=⟨hb.cell 0,hb.cell 1,hb.cell 2,hb.cell 3,hb.cell 4,hb.cell 5,hb.cell 6,hb.cell 7,hb.cell 8⟩
 obtain ⟨f0,f1,f2,f3,f4,f5,f6,f7,f8⟩:W.frozen? ⟨gx,0,none⟩=false∧W.frozen? ⟨gx,1,none⟩=false∧W.frozen? ⟨gx,2,none⟩=false∧W.frozen? ⟨gx,3,none⟩=false∧W.frozen? ⟨gx,4,none⟩=false∧W.frozen? ⟨gx,5,none⟩=false∧W.frozen? ⟨gx,6,none⟩=false∧W.frozen? ⟨gx,7,none⟩=false∧W.frozen? ⟨gx,8,none⟩=false:=⟨hb.frozen 0,hb.frozen 1,hb.frozen 2,hb.frozen 3,hb.frozen 4,hb.frozen 5,hb.frozen 6,hb.frozen 7,hb.frozen 8⟩
 unfold execOp
 simp [go_sem,ho,e0,e1,put9,z0,z1,z2,z3,z4,z5,z6,z7,z8,f0,f1,f2,f3,f4,f5,f6,f7,f8]
end Go.Proofs.YtibnehaibgbliaaGreat.Mf
