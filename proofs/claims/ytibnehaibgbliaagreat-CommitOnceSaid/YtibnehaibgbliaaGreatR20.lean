/- Laws for the row's walk. -/
import Derived.Test.YtibnehaibgbliaaGreatR19
set_option linter.unusedVariables false
set_option linter.unusedSimpArgs false
open Go.Lib renaming hid → Jh
open List renaming getElem?_toArray → Ja, getElem?_cons_zero → Jb, getElem?_cons_succ → Jc, setIfInBounds_toArray → Jd, set_cons_zero → Je, set_cons_succ → Jf, getElem_cons_zero → Jg, getElem_cons_succ → Ji, getElem_toArray → Jk
namespace Go.Proofs.YtibnehaibgbliaaGreat.Mf
open Go.RowKit Go.Proofs.YtibnehaibgbliaaGreat
section
variable {w w':World} {base gs go cO:Nat} {x:Ob} {ver now:Int}
theorem manK_key:keyB manK=true:=by decide +kernel
set_option maxRecDepth 100000 in
set_option maxHeartbeats 6400000 in
theorem do_putv (w:World) (h:S1 w base gs go cO x ver now) (A:Option Addr) (n c:Nat) (v:Int) (hv:v≠x.ver) :
  Calls Tryz.prog 23 #[.pointer (some ⟨gs,0,none⟩),.agg (callC 2 manK A n c v)] w fun e w'=>e=.returned (repV 8 none 0 0 0 0)∧Below w.heap.size w w':=by
 have hw2:Below w.heap.size w ((w.alloc (.cells (callC 2 manK A n c v) 35)).alloc (.cells rep0 42)):=((Below.refl _ _).alloc (Nat.le_refl _) _).alloc (by simp) _
 have HC2:=Jh ((Blk.new w 35 (callC 2 manK A n c v)).alloc (.cells rep0 42))
 have hR2:=Blk.new (w.alloc (.cells (callC 2 manK A n c v) 35)) 42 rep0
 have hz:(w.alloc (.cells (callC 2 manK A n c v) 35)).heap.size=w.heap.size+1:=by simp
 rw [hz] at hR2
 have HR2:=Jh hR2
 have HW2:=Jh hw2
 have HS2:=Jh (h.below hw2)
 have HS:=Jh h
 clear hR2 hw2 h hz
 go_enter Tryz.func23,Tryz.ntmps23
 go_upto_region 1 with fail
 obtain ⟨gc,hgc⟩:∃ gc,gc=w.heap.size:=⟨_,rfl⟩
 obtain ⟨gr,hgr⟩:∃ gr,gr=w.heap.size+1:=⟨_,rfl⟩
 have HG:Hid (gc=w.heap.size∧gr=w.heap.size+1):=Jh ⟨hgc,hgr⟩
 rw [← hgr] at HR2 ⊢
 rw [← hgc] at HC2 ⊢
 clear hgc hgr
 generalize (w.alloc (.cells (callC 2 manK A n c v) 35)).alloc (.cells rep0 42)=w2 at *
 have k1:w2.cell? ⟨gc,1,none⟩=some (.string manK):=HC2.out.cell 1
 have k6:w2.cell? ⟨gc,6,none⟩=some (.int .i64 0):=HC2.out.cell 6
 have HOP:Hid (∀ m,Calls Tryz.prog 44 #[.pointer (some ⟨gs,0,none⟩),.int .i64 0] (w2.drewN m) fun e w''=>e=.returned (.int .i64 (-1))∧∃ m',w''=w2.drewN m'):=Jh fun m=>(open_ (w2.drewN m) (HS2.out.below (below_drewN_ (Below.refl _ _) m)).blk rfl 0).mono fun e w'' h=>⟨h.1,m,h.2.symm⟩
 have HAT:Hid (∀ m,Calls Tryz.prog 43 #[.pointer (some ⟨gs,0,none⟩),.string manK] (w2.drewN m) fun e w''=>e=.returned (.int .i64 0)∧∃ m',w''=w2.drewN m'):=Jh fun m=>(at1 (w2.drewN m) (HS2.out.below (below_drewN_ (Below.refl _ _) m)).blk rfl (HS2.out.below (below_drewN_ (Below.refl _ _) m)).at_.1).mono fun e w'' h=>⟨h.1,m,h.2.symm⟩
 go_quiet (first|(exact HAT.out _)|(exact HOP.out _))
 clear HAT HOP k1 k6
 have hnq:=below_drewN_ (Below.refl w2.heap.size w2) nq
 have HS1:=Jh (HS2.out.below hnq)
 have HC1:=Jh (HC2.out.below hnq HC2.out.lt)
 have HR1:=Jh (HR2.out.below hnq HR2.out.lt)
 have HW1:=Jh (HW2.out.trans (hnq.mono HW2.out.size))
 clear hnq HS2 HC2 HR2 HW2
 generalize w2.drewN nq=w1 at *
 have k0:w1.cell? ⟨gc,0,none⟩=some (.int .i64 2):=HC1.out.cell 0
 have k1:w1.cell? ⟨gc,1,none⟩=some (.string manK):=HC1.out.cell 1
 have k2:w1.cell? ⟨gc,2,none⟩=some (.slice A n c):=HC1.out.cell 2
 have k3:w1.cell? ⟨gc,3,none⟩=some (.int .i64 v):=HC1.out.cell 3
 go_wp2_with fail
 refine (keyR_calls manK w1 (by decide)).mono ?_
 rintro e wk ⟨rfl,rfl⟩
 rw [manK_key]
 have d1:decide ((0:Int)≤0)=true:=by decide
 have d2:decide ((0:Int)<0)=false:=by decide
 have z0:wk.cell? ⟨gs,0,none⟩=some (.slice (some ⟨go,0,none⟩) 1 cO):=HS1.out.blk.cell 0
 obtain ⟨y0,y1,y2,y3⟩:=HS1.out.at_
 have hne:=net (show x.ver≠v from fun e=>hv e.symm)
 by_cases h0:v=0
 ·have e0:(v == 0)=true:=eqt h0
  clear h0 hv
  go_upto_region 10 with fail
  go_quiet (fail)
  have hnq:=below_drewN_ (Below.refl wk.heap.size wk) nq
  have HSq:=Jh (HS1.out.below hnq)
  have HCq:=Jh (HC1.out.below hnq HC1.out.lt)
  have HRq:=Jh (HR1.out.below hnq HR1.out.lt)
  have HWq:=Jh (HW1.out.trans (hnq.mono HW1.out.size))
  clear hnq HS1 HC1 HR1 HW1 k0 k1 k2 k3
  generalize wk.drewN nq=wq at *
  go_wp2_with fail
  refine (bad_calls wq 8).mono ?_
  rintro e wb ⟨rfl,hbb⟩
  have HRb:=Jh (HRq.out.below hbb HRq.out.lt)
  have HWb:=Jh (HWq.out.trans (hbb.mono HWq.out.size))
  clear hbb z0 y0 y1 y2
  have q0:=HRb.out.cell 0
  have q1:=HRb.out.cell 1
  have q2:=HRb.out.cell 2
  have q3:=HRb.out.cell 3
  have q4:=HRb.out.cell 4
  have q5:=HRb.out.cell 5
  have q6:=HRb.out.cell 6
  have f0:=HRb.out.frozen 0
  have f1:=HRb.out.frozen 1
  have f2:=HRb.out.frozen 2
  have f3:=HRb.out.frozen 3
  have f4:=HRb.out.frozen 4
  have f5:=HRb.out.frozen 5
  have f6:=HRb.out.frozen 6
  simp only [Ja,Jb,Jc] at q0 q1 q2 q3 q4 q5 q6
  go_wp2
  have hs:=set7_blk HRb.out (.int .i64 8) (.slice none 0 0) (.int .i64 0) (.int .i64 0) (.int .i64 0) (.slice none 0 0) (.bool false)
  have hbe:=HWb.out
  have hg:=HG.out
  have hfin:=set7_below hbe (B:=w.heap.size) (g:=gr) (by omega) (.int .i64 8) (.slice none 0 0) (.int .i64 0) (.int .i64 0) (.int .i64 0) (.slice none 0 0) (.bool false)
  refine bodyPost_ret (results_cell_row rfl _ _ gr 42 (repA 8 none 0 0 0 (.int .i64 0) (.int .i64 0) (.slice none 0 0) (.bool false)) (0,0) _ rfl hs Tryz.underlying42 rfl (by kernel_rfl)) rfl ?_
  exact ⟨rfl,hfin⟩
 ·have e0:(v == 0)=false:=eqf h0
  have e1:(v != 0)=true:=net h0
  clear h0 hv
  go_upto_region 10 with fail
  go_quiet (fail)
  have hnq:=below_drewN_ (Below.refl wk.heap.size wk) nq
  have HSq:=Jh (HS1.out.below hnq)
  have HCq:=Jh (HC1.out.below hnq HC1.out.lt)
  have HRq:=Jh (HR1.out.below hnq HR1.out.lt)
  have HWq:=Jh (HW1.out.trans (hnq.mono HW1.out.size))
  clear hnq HS1 HC1 HR1 HW1 k0 k1 k2 k3
  generalize wk.drewN nq=wq at *
  go_wp2_with fail
  refine (bad_calls wq 8).mono ?_
  rintro e wb ⟨rfl,hbb⟩
  have HRb:=Jh (HRq.out.below hbb HRq.out.lt)
  have HWb:=Jh (HWq.out.trans (hbb.mono HWq.out.size))
  clear hbb z0 y0 y1 y2
  have q0:=HRb.out.cell 0
  have q1:=HRb.out.cell 1
  have q2:=HRb.out.cell 2
  have q3:=HRb.out.cell 3
  have q4:=HRb.out.cell 4
  have q5:=HRb.out.cell 5
  have q6:=HRb.out.cell 6
  have f0:=HRb.out.frozen 0
  have f1:=HRb.out.frozen 1
  have f2:=HRb.out.frozen 2
  have f3:=HRb.out.frozen 3
  have f4:=HRb.out.frozen 4
  have f5:=HRb.out.frozen 5
  have f6:=HRb.out.frozen 6
  simp only [Ja,Jb,Jc] at q0 q1 q2 q3 q4 q5 q6
  go_wp2
  have hs:=set7_blk HRb.out (.int .i64 8) (.slice none 0 0) (.int .i64 0) (.int .i64 0) (.int .i64 0) (.slice none 0 0) (.bool false)
  have hbe:=HWb.out
  have hg:=HG.out
  have hfin:=set7_below hbe (B:=w.heap.size) (g:=gr) (by omega) (.int .i64 8) (.slice none 0 0) (.int .i64 0) (.int .i64 0) (.int .i64 0) (.slice none 0 0) (.bool false)
  refine bodyPost_ret (results_cell_row rfl _ _ gr 42 (repA 8 none 0 0 0 (.int .i64 0) (.int .i64 0) (.slice none 0 0) (.bool false)) (0,0) _ rfl hs Tryz.underlying42 rfl (by kernel_rfl)) rfl ?_
  exact ⟨rfl,hfin⟩
set_option maxRecDepth 100000 in
set_option maxHeartbeats 6400000 in
theorem do_put1 (w:World) (h:S1 w base gs go cO x ver now) {b:Nat} {A:Option Addr} {c:Nat} {d:List UInt8} (hd:w.ownsRow b 5 1 (.slice A d.length c) d.length (d.map byteV)) (hdl:d.length≤262144) (v:Int) (hv:v=x.ver) (hvn:v≠0) (hv0:0≤ver) (hv1:ver≤1000000) (hbw:base≤w.heap.size) :
  Calls Tryz.prog 23 #[.pointer (some ⟨gs,0,none⟩),.agg (callC 2 manK A d.length c v)] w (RetPut1 w base gs d ver now):=by
 have HD:=Jh hd
 have HV:=Jh hv
 have HVN:=Jh hvn
 clear hv hvn
 have HLow:Hid (base≤gs∧base≤w.heap.size):=Jh ⟨h.low,hbw⟩
 have hxs:=h.sz
 clear hd hbw
 have hw2:Below w.heap.size w ((w.alloc (.cells (callC 2 manK A d.length c v) 35)).alloc (.cells rep0 42)):=((Below.refl _ _).alloc (Nat.le_refl _) _).alloc (by simp) _
 have HC2:=Jh ((Blk.new w 35 (callC 2 manK A d.length c v)).alloc (.cells rep0 42))
 have hR2:=Blk.new (w.alloc (.cells (callC 2 manK A d.length c v) 35)) 42 rep0
 have hz:(w.alloc (.cells (callC 2 manK A d.length c v) 35)).heap.size=w.heap.size+1:=by simp
 rw [hz] at hR2
 have HR2:=Jh hR2
 have HW2:=Jh hw2
 have HS2:=Jh (h.below hw2)
 have HS:=Jh h
 clear hR2 hw2 h hz
 go_enter Tryz.func23,Tryz.ntmps23
 go_upto_region 1 with fail
 obtain ⟨gc,hgc⟩:∃ gc,gc=w.heap.size:=⟨_,rfl⟩
 obtain ⟨gr,hgr⟩:∃ gr,gr=w.heap.size+1:=⟨_,rfl⟩
 have HG:Hid (gc=w.heap.size∧gr=w.heap.size+1):=Jh ⟨hgc,hgr⟩
 rw [← hgr] at HR2 ⊢
 rw [← hgc] at HC2 ⊢
 clear hgc hgr
 generalize (w.alloc (.cells (callC 2 manK A d.length c v) 35)).alloc (.cells rep0 42)=w2 at *
 have k1:w2.cell? ⟨gc,1,none⟩=some (.string manK):=HC2.out.cell 1
 have k6:w2.cell? ⟨gc,6,none⟩=some (.int .i64 0):=HC2.out.cell 6
 have HOP:Hid (∀ m,Calls Tryz.prog 44 #[.pointer (some ⟨gs,0,none⟩),.int .i64 0] (w2.drewN m) fun e w''=>e=.returned (.int .i64 (-1))∧∃ m',w''=w2.drewN m'):=Jh fun m=>(open_ (w2.drewN m) (HS2.out.below (below_drewN_ (Below.refl _ _) m)).blk rfl 0).mono fun e w'' h=>⟨h.1,m,h.2.symm⟩
 have HAT:Hid (∀ m,Calls Tryz.prog 43 #[.pointer (some ⟨gs,0,none⟩),.string manK] (w2.drewN m) fun e w''=>e=.returned (.int .i64 0)∧∃ m',w''=w2.drewN m'):=Jh fun m=>(at1 (w2.drewN m) (HS2.out.below (below_drewN_ (Below.refl _ _) m)).blk rfl (HS2.out.below (below_drewN_ (Below.refl _ _) m)).at_.1).mono fun e w'' h=>⟨h.1,m,h.2.symm⟩
 go_quiet (first|(exact HAT.out _)|(exact HOP.out _))
 clear HAT HOP k1 k6
 have hnq:=below_drewN_ (Below.refl w2.heap.size w2) nq
 have HS1:=Jh (HS2.out.below hnq)
 have HC1:=Jh (HC2.out.below hnq HC2.out.lt)
 have HR1:=Jh (HR2.out.below hnq HR2.out.lt)
 have HW1:=Jh (HW2.out.trans (hnq.mono HW2.out.size))
 clear hnq HS2 HC2 HR2 HW2
 generalize w2.drewN nq=w1 at *
 have k0:w1.cell? ⟨gc,0,none⟩=some (.int .i64 2):=HC1.out.cell 0
 have k1:w1.cell? ⟨gc,1,none⟩=some (.string manK):=HC1.out.cell 1
 have k2:w1.cell? ⟨gc,2,none⟩=some (.slice A d.length c):=HC1.out.cell 2
 have k3:w1.cell? ⟨gc,3,none⟩=some (.int .i64 v):=HC1.out.cell 3
 go_wp2_with fail
 refine (keyR_calls manK w1 (by decide)).mono ?_
 rintro e wk ⟨rfl,rfl⟩
 rw [manK_key]
 have d1:decide ((0:Int)≤0)=true:=by decide
 have d2:decide ((0:Int)<0)=false:=by decide
 have z0:wk.cell? ⟨gs,0,none⟩=some (.slice (some ⟨go,0,none⟩) 1 cO):=HS1.out.blk.cell 0
 obtain ⟨y0,y1,y2,y3⟩:=HS1.out.at_
 have hne:(x.ver != v)=false:=nef HV.out.symm
 have e0:(v == 0)=false:=eqf HVN.out
 have e1:(v != 0)=true:=net HVN.out
 go_upto_region 10 with fail
 go_quiet (fail)
 have hnq:=below_drewN_ (Below.refl wk.heap.size wk) nq
 have HSq:=Jh (HS1.out.below hnq)
 have HCq:=Jh (HC1.out.below hnq HC1.out.lt)
 have HRq:=Jh (HR1.out.below hnq HR1.out.lt)
 have HWq:=Jh (HW1.out.trans (hnq.mono HW1.out.size))
 clear hnq HS1 HC1 HR1 HW1 k0 k1 k2 k3
 generalize wk.drewN nq=wq at *
 clear z0 y0 y1 y2 y3 hne e0 e1
 have k2:wq.cell? ⟨gc,2,none⟩=some (.slice A d.length c):=HCq.out.cell 2
 have d3:decide ((262144:Int)<(d.length:Int))=false:=dcf (by omega)
 have d4:decide ((4194304:Int)<(d.length:Int))=false:=dcf (by omega)
 obtain ⟨sz,hsz⟩:∃ sz:Int,sz=(x.d.length:Int):=⟨_,rfl⟩
 have r1:IntKind.i64.wrap (sz-(x.d.length:Int))=0:=by rw [hsz,Int.sub_self];rfl
 have r2:IntKind.i64.wrap (d.length:Int)=(d.length:Int):=by rw [IntKind.wrap_i64];omega
 have Hk:Hid (∀ W,Below wq.heap.size wq W→W.cell? ⟨gc,2,none⟩=some (.slice A d.length c)):=Jh fun W hW=>(HCq.out.below hW HCq.out.lt).cell 2
 have HSZ:Hid (∀ W,Below wq.heap.size wq W→Calls Tryz.prog 47 #[.pointer (some ⟨gs,0,none⟩)] W fun e w'=>e=.returned (.int .i64 sz)∧Below W.heap.size W w'):=Jh fun W hW=>by rw [hsz];exact size1 W (HSq.out.below hW)
 clear hsz hxs
 go_upto_region 14 with fail
 refine wp_region_T 99 (fun w'=>w'.cell? ⟨gc,2,none⟩=some (.slice A d.length c)) (by kernel_rfl) (Hk.out _ (below_drewN_ (Below.refl _ _) 1)) (fun hHeld=>?_)
 have HW0:Hid (Below wq.heap.size wq wq.drew):=Jh (below_drewN_ (Below.refl _ _) 1)
 generalize wq.drew=wd at *
 apply tkT 0
 apply tkT 1
 apply tkT 2
 apply tuT 3
 apply tuT 4
 apply tuT 5
 apply tuT 6
 apply tuT 7
 apply tuT 8
 apply tkT 9
 apply tkT 10
 apply tkT 11
 apply tkT 13
 apply tkT 15
 apply tkT 16
 apply tkT 17
 refine wpAnyT_one (i:=12) (by kernel_rfl) rfl (fun K hK=>?_);go_simp
 refine (HSZ.out _ HW0.out).mono ?_
 rintro e w8 ⟨rfl,hb8'⟩
 have hb8:=HW0.out.trans (hb8'.mono HW0.out.size)
 have hH8:=Hk.out _ hb8
 refine hK.out _ _ (fun _=>hH8) ?_
 have HS8:=Jh (HSq.out.below hb8)
 have HC8:=Jh (HCq.out.below hb8 HCq.out.lt)
 have HR8:=Jh (HRq.out.below hb8 HRq.out.lt)
 have HW8:=Jh (HWq.out.trans (hb8.mono HWq.out.size))
 clear hK K hHeld hb8 hb8' HSZ Hk HW0
 (try simp only [Act.put,Jk,Jg,Ji,Jd,Je,Jf])
 apply tkT 14
 apply tkT 18
 apply tkT 19
 apply tkT 20
 refine wpAnyT_done (by kernel_rfl) ?_ _
 clear hH8 k2
 have HD8:=Jh (own_below HD.out HW8.out)
 have HPT:=Jh (put1 (c:=c) w8 HS8.out (fun w' ho=>own_bytes (own_free HD8.out ho HS8.out.blk (by decide))) hdl hv0 hv1 (Nat.le_trans HLow.out.2 HW8.out.size))
 have k1:w8.cell? ⟨gc,1,none⟩=some (.string manK):=HC8.out.cell 1
 have k2:w8.cell? ⟨gc,2,none⟩=some (.slice A d.length c):=HC8.out.cell 2
 go_wp2_with fail
 refine HPT.out.mono ?_
 rintro e w9 ⟨go',cO',x',rfl,hS9,hxd,hxv,hxb,hkt,hbe⟩
 have HR9:=Jh (hkt.blk_ HR8.out (by decide) (by decide))
 have HS9:=Jh hS9
 have HX9:=Jh (And.intro hxd (And.intro hxv hxb))
 have HK9:=Jh ((KT.of_below ((Below.refl _ _).trans HW8.out)).trans hkt)
 have HBE9:=Jh ((HW8.out.mono HLow.out.2).trans hbe)
 clear hS9 hxd hxv hxb hkt hbe k1 k2 HPT
 have q0:=HR9.out.cell 0
 have q1:=HR9.out.cell 1
 have q2:=HR9.out.cell 2
 have q3:=HR9.out.cell 3
 have q4:=HR9.out.cell 4
 have q5:=HR9.out.cell 5
 have q6:=HR9.out.cell 6
 have f0:=HR9.out.frozen 0
 have f1:=HR9.out.frozen 1
 have f2:=HR9.out.frozen 2
 have f3:=HR9.out.frozen 3
 have f4:=HR9.out.frozen 4
 have f5:=HR9.out.frozen 5
 have f6:=HR9.out.frozen 6
 simp only [Ja,Jb,Jc] at q0 q1 q2 q3 q4 q5 q6
 go_wp2
 have hs:=set7_blk HR9.out (.int .i64 0) (.slice none 0 0) (.int .i64 (ver+1)) (.int .i64 now) (.int .i64 0) (.slice none 0 0) (.bool false)
 have hon:=set7_self w9 gr (.int .i64 0) (.slice none 0 0) (.int .i64 (ver+1)) (.int .i64 now) (.int .i64 0) (.slice none 0 0) (.bool false)
 have hg:=HG.out
 have hkt:=HK9.out
 have hbe:=HBE9.out
 have hlow:=HLow.out
 refine bodyPost_ret (results_cell_row rfl _ _ gr 42 (repA 0 none 0 0 (ver+1) (.int .i64 now) (.int .i64 0) (.slice none 0 0) (.bool false)) (0,0) _ rfl hs Tryz.underlying42 rfl (by kernel_rfl)) rfl ?_
 exact ⟨go',cO',x',rfl,S1.other HS9.out hon HR9.out (by decide) (by decide) (by decide),HX9.out.1,HX9.out.2.1,HX9.out.2.2,hkt.fin hon (by omega),hbe.trans (hon.below (by omega) (by have:=hbe.size;omega))⟩
set_option maxRecDepth 100000 in
set_option maxHeartbeats 6400000 in
theorem do_put0 (w:World) (h:S0 w base gs now) {b:Nat} {A:Option Addr} {c:Nat} {d:List UInt8} (hd:w.ownsRow b 5 1 (.slice A d.length c) d.length (d.map byteV)) (hdl:d.length≤262144) (ver:Int) (hver:Hid (ver=0)) (hbw:base≤w.heap.size) :
  Calls Tryz.prog 23 #[.pointer (some ⟨gs,0,none⟩),.agg (callC 2 manK A d.length c 0)] w (RetPut1 w base gs d ver now):=by
 have HD:=Jh hd
 have HLow:Hid (base≤gs∧base≤w.heap.size):=Jh ⟨h.low,hbw⟩
 clear hd hbw
 have hw2:Below w.heap.size w ((w.alloc (.cells (callC 2 manK A d.length c 0) 35)).alloc (.cells rep0 42)):=((Below.refl _ _).alloc (Nat.le_refl _) _).alloc (by simp) _
 have HC2:=Jh ((Blk.new w 35 (callC 2 manK A d.length c 0)).alloc (.cells rep0 42))
 have hR2:=Blk.new (w.alloc (.cells (callC 2 manK A d.length c 0) 35)) 42 rep0
 have hz:(w.alloc (.cells (callC 2 manK A d.length c 0) 35)).heap.size=w.heap.size+1:=by simp
 rw [hz] at hR2
 have HR2:=Jh hR2
 have HW2:=Jh hw2
 have HS2:=Jh (h.below hw2)
 have HS:=Jh h
 clear hR2 hw2 h hz
 go_enter Tryz.func23,Tryz.ntmps23
 go_upto_region 1 with fail
 obtain ⟨gc,hgc⟩:∃ gc,gc=w.heap.size:=⟨_,rfl⟩
 obtain ⟨gr,hgr⟩:∃ gr,gr=w.heap.size+1:=⟨_,rfl⟩
 have HG:Hid (gc=w.heap.size∧gr=w.heap.size+1):=Jh ⟨hgc,hgr⟩
 rw [← hgr] at HR2 ⊢
 rw [← hgc] at HC2 ⊢
 clear hgc hgr
 generalize (w.alloc (.cells (callC 2 manK A d.length c 0) 35)).alloc (.cells rep0 42)=w2 at *
 have k1:w2.cell? ⟨gc,1,none⟩=some (.string manK):=HC2.out.cell 1
 have k6:w2.cell? ⟨gc,6,none⟩=some (.int .i64 0):=HC2.out.cell 6
 have HOP:Hid (∀ m,Calls Tryz.prog 44 #[.pointer (some ⟨gs,0,none⟩),.int .i64 0] (w2.drewN m) fun e w''=>e=.returned (.int .i64 (-1))∧∃ m',w''=w2.drewN m'):=Jh fun m=>(open_ (w2.drewN m) (HS2.out.below (below_drewN_ (Below.refl _ _) m)).blk rfl 0).mono fun e w'' h=>⟨h.1,m,h.2.symm⟩
 have HAT:Hid (∀ m,Calls Tryz.prog 43 #[.pointer (some ⟨gs,0,none⟩),.string manK] (w2.drewN m) fun e w''=>e=.returned (.int .i64 (-1))∧∃ m',w''=w2.drewN m'):=Jh fun m=>(at0 (w2.drewN m) (HS2.out.below (below_drewN_ (Below.refl _ _) m)).blk rfl).mono fun e w'' h=>⟨h.1,m,h.2.symm⟩
 go_quiet (first|(exact HAT.out _)|(exact HOP.out _))
 clear HAT HOP k1 k6
 have hnq:=below_drewN_ (Below.refl w2.heap.size w2) nq
 have HS1:=Jh (HS2.out.below hnq)
 have HC1:=Jh (HC2.out.below hnq HC2.out.lt)
 have HR1:=Jh (HR2.out.below hnq HR2.out.lt)
 have HW1:=Jh (HW2.out.trans (hnq.mono HW2.out.size))
 clear hnq HS2 HC2 HR2 HW2
 generalize w2.drewN nq=w1 at *
 have k0:w1.cell? ⟨gc,0,none⟩=some (.int .i64 2):=HC1.out.cell 0
 have k1:w1.cell? ⟨gc,1,none⟩=some (.string manK):=HC1.out.cell 1
 have k2:w1.cell? ⟨gc,2,none⟩=some (.slice A d.length c):=HC1.out.cell 2
 have k3:w1.cell? ⟨gc,3,none⟩=some (.int .i64 0):=HC1.out.cell 3
 go_wp2_with fail
 refine (keyR_calls manK w1 (by decide)).mono ?_
 rintro e wk ⟨rfl,rfl⟩
 rw [manK_key]
 have d1:decide ((0:Int)≤-1)=false:=by decide
 have d2:decide ((-1:Int)<0)=true:=by decide
 go_upto_region 10 with fail
 go_quiet (fail)
 have hnq:=below_drewN_ (Below.refl wk.heap.size wk) nq
 have HSq:=Jh (HS1.out.below hnq)
 have HCq:=Jh (HC1.out.below hnq HC1.out.lt)
 have HRq:=Jh (HR1.out.below hnq HR1.out.lt)
 have HWq:=Jh (HW1.out.trans (hnq.mono HW1.out.size))
 clear hnq HS1 HC1 HR1 HW1 k0 k1 k2 k3
 generalize wk.drewN nq=wq at *
 have k2:wq.cell? ⟨gc,2,none⟩=some (.slice A d.length c):=HCq.out.cell 2
 have z0:wq.cell? ⟨gs,0,none⟩=some (.slice none 0 0):=HSq.out.blk.cell 0
 have d3:decide ((262144:Int)<(d.length:Int))=false:=dcf (by omega)
 have d4:decide ((4194304:Int)<(d.length:Int))=false:=dcf (by omega)
 have d5:decide ((4194304:Int)<IntKind.i64.wrap (IntKind.i64.wrap 0+(d.length:Int)))=false:=dcf (by rw [IntKind.wrap_i64,IntKind.wrap_i64];omega)
 have Hk:Hid (∀ W,Below wq.heap.size wq W→W.cell? ⟨gc,2,none⟩=some (.slice A d.length c)∧W.cell? ⟨gs,0,none⟩=some (.slice none 0 0)):=Jh fun W hW=>⟨(HCq.out.below hW HCq.out.lt).cell 2,(HSq.out.below hW).blk.cell 0⟩
 have HSZ:Hid (∀ W,Below wq.heap.size wq W→Calls Tryz.prog 47 #[.pointer (some ⟨gs,0,none⟩)] W fun e w'=>e=.returned (.int .i64 0)∧Below W.heap.size W w'):=Jh fun W hW=>size0 W (HSq.out.below hW)
 go_upto_region 14 with fail
 refine wp_region_T 99 (fun w'=>w'.cell? ⟨gc,2,none⟩=some (.slice A d.length c)∧w'.cell? ⟨gs,0,none⟩=some (.slice none 0 0)) (by kernel_rfl) (Hk.out _ (below_drewN_ (Below.refl _ _) 1)) (fun hHeld=>?_)
 have HW0:Hid (Below wq.heap.size wq wq.drew):=Jh (below_drewN_ (Below.refl _ _) 1)
 generalize wq.drew=wd at *
 apply tkT 0
 apply tkT 1
 apply tkT 2
 apply tkT 3
 apply tkT 4
 apply tkT 5
 apply tkT 6
 apply tkT 7
 apply tkT 8
 apply tkT 9
 apply tkT 10
 apply tkT 11
 apply tkT 13
 apply tkT 15
 apply tkT 16
 apply tkT 17
 refine wpAnyT_one (i:=12) (by kernel_rfl) rfl (fun K hK=>?_);go_simp
 refine (HSZ.out _ HW0.out).mono ?_
 rintro e w8 ⟨rfl,hb8'⟩
 have hb8:=HW0.out.trans (hb8'.mono HW0.out.size)
 have hH8:=Hk.out _ hb8
 refine hK.out _ _ (fun _=>hH8) ?_
 have HS8:=Jh (HSq.out.below hb8)
 have HC8:=Jh (HCq.out.below hb8 HCq.out.lt)
 have HR8:=Jh (HRq.out.below hb8 HRq.out.lt)
 have HW8:=Jh (HWq.out.trans (hb8.mono HWq.out.size))
 clear hK K hHeld hb8 hb8' HSZ Hk HW0 z0
 (try simp only [Act.put,Jk,Jg,Ji,Jd,Je,Jf])
 apply tkT 14
 apply tkT 18
 apply tkT 19
 apply tkT 20
 refine wpAnyT_done (by kernel_rfl) ?_ _
 clear hH8 k2
 have HD8:=Jh (own_below HD.out HW8.out)
 have HPT:=Jh (put0 (c:=c) w8 HS8.out (fun w' ho=>own_bytes (own_free HD8.out ho HS8.out.blk (by decide))) hdl ver hver (Nat.le_trans HLow.out.2 HW8.out.size))
 clear hver
 have k1:w8.cell? ⟨gc,1,none⟩=some (.string manK):=HC8.out.cell 1
 have k2:w8.cell? ⟨gc,2,none⟩=some (.slice A d.length c):=HC8.out.cell 2
 go_wp2_with fail
 refine HPT.out.mono ?_
 rintro e w9 ⟨go',cO',x',rfl,hS9,hxd,hxv,hxb,hkt,hbe⟩
 have HR9:=Jh (hkt.blk_ HR8.out (by decide) (by decide))
 have HS9:=Jh hS9
 have HX9:=Jh (And.intro hxd (And.intro hxv hxb))
 have HK9:=Jh ((KT.of_below ((Below.refl _ _).trans HW8.out)).trans hkt)
 have HBE9:=Jh ((HW8.out.mono HLow.out.2).trans hbe)
 clear hS9 hxd hxv hxb hkt hbe k1 k2 HPT
 have q0:=HR9.out.cell 0
 have q1:=HR9.out.cell 1
 have q2:=HR9.out.cell 2
 have q3:=HR9.out.cell 3
 have q4:=HR9.out.cell 4
 have q5:=HR9.out.cell 5
 have q6:=HR9.out.cell 6
 have f0:=HR9.out.frozen 0
 have f1:=HR9.out.frozen 1
 have f2:=HR9.out.frozen 2
 have f3:=HR9.out.frozen 3
 have f4:=HR9.out.frozen 4
 have f5:=HR9.out.frozen 5
 have f6:=HR9.out.frozen 6
 simp only [Ja,Jb,Jc] at q0 q1 q2 q3 q4 q5 q6
 go_wp2
 have hs:=set7_blk HR9.out (.int .i64 0) (.slice none 0 0) (.int .i64 (ver+1)) (.int .i64 now) (.int .i64 0) (.slice none 0 0) (.bool false)
 have hon:=set7_self w9 gr (.int .i64 0) (.slice none 0 0) (.int .i64 (ver+1)) (.int .i64 now) (.int .i64 0) (.slice none 0 0) (.bool false)
 have hg:=HG.out
 have hkt:=HK9.out
 have hbe:=HBE9.out
 have hlow:=HLow.out
 refine bodyPost_ret (results_cell_row rfl _ _ gr 42 (repA 0 none 0 0 (ver+1) (.int .i64 now) (.int .i64 0) (.slice none 0 0) (.bool false)) (0,0) _ rfl hs Tryz.underlying42 rfl (by kernel_rfl)) rfl ?_
 exact ⟨go',cO',x',rfl,S1.other HS9.out hon HR9.out (by decide) (by decide) (by decide),HX9.out.1,HX9.out.2.1,HX9.out.2.2,hkt.fin hon (by omega),hbe.trans (hon.below (by omega) (by have:=hbe.size;omega))⟩
end
set_option maxRecDepth 100000 in
set_option maxHeartbeats 3200000 in
theorem marksR_calls (w:World) {B c:Nat} {A:Option Addr} {l:List Mk} (h:Reads w B 2 A l.length (l.flatMap Mk.cs)) (hB:B≤w.heap.size) (hn:l.length≤17592186044416) :
  Calls Tryz.prog 36 #[.slice A l.length c] w fun e w'=>e=.returned (.bool (risB mkB ltM l))∧Below w.heap.size w w':=by
 have HC:Hid (∀ x y:Mk,decide (y.maker≤x.maker)=!ltM x y):=Jh fun x y=>by unfold ltM;by_cases h:x.maker<y.maker<;>simp [h]<;>omega
 go_enter Tryz.func36,Tryz.ntmps36
 go_wp2
 go_loopw [7] (fun i wr=>∃ k:Nat,k≤l.length∧i=.int .i64 (k:Int)∧Hid (∀ i,i<k→mkB (gt l i)=true∧(0<i→ltM (gt l (i-1)) (gt l i)=true))∧Below w.heap.size w wr) (fun i _=>l.length-(intOf i).toNat)
 case atStart=>exact ⟨0,Nat.zero_le _,rfl,Jh fun i hi=>absurd hi (by omega),Below.refl _ _⟩
 case round =>
  obtain ⟨k,hk,rfl,hall,hbel⟩:=hrel
  by_cases hlt:k<l.length
  ·have hsz:=hbel.size
   have hr:=h.below (hbel.mono hB)
   obtain ⟨b,off,rfl,hbB⟩:=row_addr hr (by omega)
   have HG:Hid (∀ W,Below wr.heap.size wr W→∀ i,i<l.length→W.cell? ⟨b,off+i*2,none⟩=some (.int .i64 (gt l i).maker)∧W.cell? ⟨b,off+i*2+1,none⟩=some (.int .i64 (gt l i).seq)):=Jh fun W hW i hi=>⟨row_cell mcs_len (hr.below (hW.mono (by omega))) hi (j:=0) rfl,row_cell mcs_len (hr.below (hW.mono (by omega))) hi (j:=1) rfl⟩
   obtain ⟨p0,p1⟩:=HG.out wr (Below.refl _ _) k hlt
   have HB1:=Jh ((Below.refl wr.heap.size wr).alloc (Nat.le_refl _) (.cells #[.int .i64 (gt l k).maker,.int .i64 (gt l k).seq] 90))
   have HR2:=Jh fun W=>markR_calls (gt l k) W
   have HBL:Hid (∀ W,Below (wr.heap.size+1) (wr.alloc (.cells #[.int .i64 (gt l k).maker,.int .i64 (gt l k).seq] 90)) W→W.cell? ⟨wr.heap.size,0,none⟩=some (.int .i64 (gt l k).maker)∧W.cell? ⟨wr.heap.size,1,none⟩=some (.int .i64 (gt l k).seq)):=Jh fun W hW=>by
    have hb:=(Blk.new wr 90 #[.int .i64 (gt l k).maker,.int .i64 (gt l k).seq]).below hW (Nat.lt_succ_self _)
    exact ⟨hb.cell 0,hb.cell 1⟩
   have Hno1:=Jh (fun hh=>ris_no1 (r:=mkB) (lt:=ltM) hlt hh)
   have Hno2:=Jh (fun hp hh=>ris_no2 (r:=mkB) (lt:=ltM) hlt hp hh)
   have Hst:=Jh (fun h1 h2=>ris_step (r:=mkB) (lt:=ltM) hall.out h1 h2)
   have HC2:=Jh (HC.out (gt l (k-1)) (gt l k))
   have HP:=Jh fun W hW (hp:0<k)=>HG.out W hW (k-1) (by omega)
   clear hr HG hall h HC
   generalize gt l k=x at *
   generalize gt l (k-1)=y at *
   have n1:IntKind.i64.wrap ((k:Int)-1)=(k:Int)-1:=IntWalk.i64_in _ (by omega)
   cases hx:mkB x
   ·have HV:=Jh (Hno1.out hx)
    rw [hx] at HR2
    clear hx Hno1 Hno2 Hst HC2 HP
    go_wp2_with fail
    refine wp_region_T 99 (fun w'=>w'.cell? ⟨wr.heap.size,0,none⟩=some (.int .i64 x.maker)∧w'.cell? ⟨wr.heap.size,1,none⟩=some (.int .i64 x.seq)) (by kernel_rfl) (HBL.out _ (below_drewN_ (Below.refl _ _) 1)) (fun hHeld=>?_)
    apply tkT 0
    refine wpAnyT_one (i:=1) (by kernel_rfl) rfl (fun K hK=>?_);go_simp
    refine (HR2.out _).mono ?_
    rintro e wa ⟨rfl,hba⟩
    have hea0:Below (wr.heap.size+1) (wr.alloc (.cells #[.int .i64 x.maker,.int .i64 x.seq] 90)) wa:=(below_drewN_ (Below.refl _ _) 1).trans (hba.mono (by simp [World.drew]))
    have hea:Below wr.heap.size wr wa:=HB1.out.trans (hea0.mono (by omega))
    have hHa:=HBL.out _ hea0
    refine hK.out _ _ (fun _=>hHa) ?_
    clear hK K hHeld hba
    apply tkT 2
    apply tkT 3
    apply tuT 4
    apply tuT 5
    apply tuT 6
    apply tuT 7
    apply tuT 8
    apply tuT 9
    apply tuT 10
    apply tuT 11
    apply tuT 12
    apply tuT 13
    apply tuT 14
    apply tuT 15
    apply tuT 16
    apply tkT 17
    refine wpAnyT_done (by kernel_rfl) ?_ _
    go_wp2
    go_ret
    exact ⟨by rw [HV.out];rfl,hbel.trans (hea.mono hsz)⟩
   rw [hx] at HR2
   by_cases hp:0<k
   ·have dk:decide ((0:Int)<(k:Int))=true:=dct (by omega)
    have k0:(0:Int)≤(k:Int)-1:=by omega
    have k9:(k:Int)-1<(l.length:Int):=by omega
    have k1:(1:Int)≤(k:Int):=by omega
    have k2:¬ (k:Int)<1:=by omega
    have e1:((k:Int)-1).toNat=k-1:=by omega
    have HP2:Hid (∀ W,Below (wr.heap.size+1) (wr.alloc (.cells #[.int .i64 x.maker,.int .i64 x.seq] 90)) W→(W.cell? ⟨wr.heap.size,0,none⟩=some (.int .i64 x.maker)∧W.cell? ⟨wr.heap.size,1,none⟩=some (.int .i64 x.seq))∧W.cell? ⟨b,off+(k-1)*2,none⟩=some (.int .i64 y.maker)∧W.cell? ⟨b,off+(k-1)*2+1,none⟩=some (.int .i64 y.seq)):=Jh fun W hW=>⟨HBL.out W hW,HP.out W (HB1.out.trans (hW.mono (by omega))) hp⟩
    cases hlt2:ltM y x
    ·have HV:=Jh (Hno2.out hp hlt2)
     have HC3:=Jh HC2.out
     rw [hlt2] at HC3
     clear hx Hno1 Hno2 Hst HC2 HP HBL hlt2
     go_wp2_with fail
     refine wp_region_T 99 (fun w'=>(w'.cell? ⟨wr.heap.size,0,none⟩=some (.int .i64 x.maker)∧w'.cell? ⟨wr.heap.size,1,none⟩=some (.int .i64 x.seq))∧w'.cell? ⟨b,off+(k-1)*2,none⟩=some (.int .i64 y.maker)∧w'.cell? ⟨b,off+(k-1)*2+1,none⟩=some (.int .i64 y.seq)) (by kernel_rfl) (HP2.out _ (below_drewN_ (Below.refl _ _) 1)) (fun hHeld=>?_)
     apply tkT 0
     refine wpAnyT_one (i:=1) (by kernel_rfl) rfl (fun K hK=>?_);go_simp
     refine (HR2.out _).mono ?_
     rintro e wa ⟨rfl,hba⟩
     have hea0:Below (wr.heap.size+1) (wr.alloc (.cells #[.int .i64 x.maker,.int .i64 x.seq] 90)) wa:=(below_drewN_ (Below.refl _ _) 1).trans (hba.mono (by simp [World.drew]))
     have hHa:=HP2.out _ hea0
     refine hK.out _ _ (fun _=>hHa) ?_
     clear hK K hHeld hba
     apply tkT 2
     apply tkT 3
     have hea:Below wr.heap.size wr wa:=HB1.out.trans (hea0.mono (by omega))
     have HC4:=HC3.out
     apply tkT 4
     apply tkT 5
     apply tkT 6
     apply tkT 7
     apply tkT 8
     apply tkT 9
     apply tkT (v:=.pointer (some ⟨b,off+(k-1)*2,none⟩)) 10
     apply tkT 11
     apply tkT 12
     apply tkT 13
     apply tkT 14
     apply tkT 15
     apply tkT 16
     apply tkT 17
     refine wpAnyT_done (by kernel_rfl) ?_ _
     go_wp2
     go_ret
     exact ⟨by rw [HV.out];rfl,hbel.trans (hea.mono hsz)⟩
    ·have HS:=Jh (Hst.out hx (fun _=>hlt2))
     have HC3:=Jh HC2.out
     rw [hlt2] at HC3
     clear hx Hno1 Hno2 Hst HC2 HP HBL hlt2
     go_wp2_with fail
     refine wp_region_T 99 (fun w'=>(w'.cell? ⟨wr.heap.size,0,none⟩=some (.int .i64 x.maker)∧w'.cell? ⟨wr.heap.size,1,none⟩=some (.int .i64 x.seq))∧w'.cell? ⟨b,off+(k-1)*2,none⟩=some (.int .i64 y.maker)∧w'.cell? ⟨b,off+(k-1)*2+1,none⟩=some (.int .i64 y.seq)) (by kernel_rfl) (HP2.out _ (below_drewN_ (Below.refl _ _) 1)) (fun hHeld=>?_)
     apply tkT 0
     refine wpAnyT_one (i:=1) (by kernel_rfl) rfl (fun K hK=>?_);go_simp
     refine (HR2.out _).mono ?_
     rintro e wa ⟨rfl,hba⟩
     have hea0:Below (wr.heap.size+1) (wr.alloc (.cells #[.int .i64 x.maker,.int .i64 x.seq] 90)) wa:=(below_drewN_ (Below.refl _ _) 1).trans (hba.mono (by simp [World.drew]))
     have hHa:=HP2.out _ hea0
     refine hK.out _ _ (fun _=>hHa) ?_
     clear hK K hHeld hba
     apply tkT 2
     apply tkT 3
     have hea:Below wr.heap.size wr wa:=HB1.out.trans (hea0.mono (by omega))
     have HC4:=HC3.out
     apply tkT 4
     apply tkT 5
     apply tkT 6
     apply tkT 7
     apply tkT 8
     apply tkT 9
     apply tkT (v:=.pointer (some ⟨b,off+(k-1)*2,none⟩)) 10
     apply tkT 11
     apply tkT 12
     apply tkT 13
     apply tkT 14
     apply tkT 15
     apply tkT 16
     apply tkT 17
     refine wpAnyT_done (by kernel_rfl) ?_ _
     go_wp2
     go_roundw
     case rel=>exact ⟨k+1,by omega,by go_num,HS,hbel.trans (hea.mono hsz)⟩
     case measure=>simp [intOf];omega
   ·have dk:decide ((0:Int)<(k:Int))=false:=dcf (by omega)
    have HS:=Jh (Hst.out hx (fun h=>absurd h hp))
    clear hx Hno1 Hno2 Hst HC2 HP
    go_wp2_with fail
    refine wp_region_T 99 (fun w'=>w'.cell? ⟨wr.heap.size,0,none⟩=some (.int .i64 x.maker)∧w'.cell? ⟨wr.heap.size,1,none⟩=some (.int .i64 x.seq)) (by kernel_rfl) (HBL.out _ (below_drewN_ (Below.refl _ _) 1)) (fun hHeld=>?_)
    apply tkT 0
    refine wpAnyT_one (i:=1) (by kernel_rfl) rfl (fun K hK=>?_);go_simp
    refine (HR2.out _).mono ?_
    rintro e wa ⟨rfl,hba⟩
    have hea0:Below (wr.heap.size+1) (wr.alloc (.cells #[.int .i64 x.maker,.int .i64 x.seq] 90)) wa:=(below_drewN_ (Below.refl _ _) 1).trans (hba.mono (by simp [World.drew]))
    have hea:Below wr.heap.size wr wa:=HB1.out.trans (hea0.mono (by omega))
    have hHa:=HBL.out _ hea0
    refine hK.out _ _ (fun _=>hHa) ?_
    clear hK K hHeld hba
    apply tkT 2
    apply tkT 3
    apply tkT 4
    apply tkT 5
    apply tkT 6
    apply tuT 7
    apply tuT 8
    apply tuT 9
    apply tuT 10
    apply tuT 11
    apply tuT 12
    apply tuT 13
    apply tuT 14
    apply tuT 15
    apply tkT 16
    apply tkT 17
    refine wpAnyT_done (by kernel_rfl) ?_ _
    go_wp2
    go_roundw
    case rel=>exact ⟨k+1,by omega,by go_num,HS,hbel.trans (hea.mono hsz)⟩
    case measure=>simp [intOf];omega
  ·obtain rfl:k=l.length:=by omega
   have HV:=Jh (ris_yes hall.out)
   go_wp2
   go_ret
   exact ⟨by rw [HV.out];rfl,hbel⟩
end Go.Proofs.YtibnehaibgbliaaGreat.Mf
