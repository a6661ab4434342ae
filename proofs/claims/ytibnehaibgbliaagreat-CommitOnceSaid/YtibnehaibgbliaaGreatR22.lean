/- Laws for the row's walk. -/
import Derived.Test.YtibnehaibgbliaaGreatR21
set_option linter.unusedVariables false
set_option linter.unusedSimpArgs false
open Go.Lib renaming hid → Jh
open List renaming setIfInBounds_toArray → Jd, set_cons_zero → Je, set_cons_succ → Jf
namespace Go.Proofs.YtibnehaibgbliaaGreat.Mf
open Go.RowKit Go.Proofs.YtibnehaibgbliaaGreat
set_option maxRecDepth 100000 in
set_option maxHeartbeats 12800000 in
theorem decR_calls (w:World) {B n c:Nat} {A:Option Addr} {s:List UInt8} (h:Bytes w B A n s) (hB:B≤w.heap.size) (hnc:n≤c) (hn:n≤1000000) :
  Calls Tryz.prog 42 #[.slice A n c] w (RetAp w (decB s).1 (decB s).2):=by
 have hb0:=(Below.refl w.heap.size w).alloc (Nat.le_refl _) (.cells #[.int .i64 0,.int .i64 0,.int .i64 0,.slice none 0 0,.slice none 0 0,.slice none 0 0] 53)
 have HOp:=Jh (Cr.openR_calls (w.alloc (.cells #[.int .i64 0,.int .i64 0,.int .i64 0,.slice none 0 0,.slice none 0 0,.slice none 0 0] 53)) (c:=c) (h.below (hb0.mono hB)) (Nat.le_trans hB (by simp)) hnc (by omega))
 have HZ:=Jh (Blk.new w 53 #[.int .i64 0,.int .i64 0,.int .i64 0,.slice none 0 0,.slice none 0 0,.slice none 0 0])
 have hsl:=h.len
 rcases hop:Cr.copen s with ⟨t,eo⟩
 have htl:=copen_le hop
 rw [hop] at HOp
 have Hop:=Jh hop
 clear h hop
 go_enter Tryz.func42,Tryz.ntmps42
 go_wp2_with fail
 refine HOp.out.mono ?_
 rintro e w1 hret
 obtain ⟨A1,c1,rfl,hc1,hm1,hby1,hb1,-⟩:=hret.opened
 have hz1:=HZ.out.below hb1 (by simp)
 have hbw1:Below w.heap.size w w1:=hb0.trans (hb1.mono (by simp))
 have hsw1:w.heap.size<w1.heap.size:=by have:=hb1.size;simp at this;omega
 clear hret HOp HZ hb0 hb1
 dsimp only at hc1 hby1 ⊢
 obtain ⟨z0,z1,z2,z3,z4,z5⟩:w1.cell? ⟨w.heap.size,0,none⟩=some (.int .i64 0)∧w1.cell? ⟨w.heap.size,1,none⟩=some (.int .i64 0)∧w1.cell? ⟨w.heap.size,2,none⟩=some (.int .i64 0)∧w1.cell? ⟨w.heap.size,3,none⟩=some (.slice none 0 0)∧w1.cell? ⟨w.heap.size,4,none⟩=some (.slice none 0 0)∧w1.cell? ⟨w.heap.size,5,none⟩=some (.slice none 0 0):=⟨hz1.cell 0,hz1.cell 1,hz1.cell 2,hz1.cell 3,hz1.cell 4,hz1.cell 5⟩
 obtain ⟨f0,f1,f2,f3,f4,f5⟩:w1.frozen? ⟨w.heap.size,0,none⟩=false∧w1.frozen? ⟨w.heap.size,1,none⟩=false∧w1.frozen? ⟨w.heap.size,2,none⟩=false∧w1.frozen? ⟨w.heap.size,3,none⟩=false∧w1.frozen? ⟨w.heap.size,4,none⟩=false∧w1.frozen? ⟨w.heap.size,5,none⟩=false:=⟨hz1.frozen 0,hz1.frozen 1,hz1.frozen 2,hz1.frozen 3,hz1.frozen 4,hz1.frozen 5⟩
 by_cases he:eo=0
 ·subst he
  simp only [Int.natCast_zero]
  have HDB:=Jh (decB_ok Hop.out)
  have HZ1:=Jh hz1
  have HBW1:=Jh hbw1
  have HCu:=Jh (cur_new (t:=145) hby1 hc1 hm1)
  clear z0 z1 z2 z3 z4 z5 f0 f1 f2 f3 f4 f5 hz1 hbw1 Hop hby1
  go_wp2_with fail
  have hsl2:t.length≤1000000:=by omega
  have hszc:(w1.alloc (.cells #[.slice A1 t.length c1,.int .i64 0,.int .i64 0] 145)).heap.size=w1.heap.size+1:=by simp
  have HFc:Hid (Fr2 w1.heap.size w1.heap.size w1 (w1.alloc (.cells #[.slice A1 t.length c1,.int .i64 0,.int .i64 0] 145))):=Jh ((Fr2.refl _ _ _).alloc _)
  generalize w1.alloc (.cells #[.slice A1 t.length c1,.int .i64 0,.int .i64 0] 145)=w2 at *
  refine (Nu.rBytes_calls w2 HCu.out (by omega) 5 (by decide)).mono ?_
  rintro en1 w3 ⟨A3,c3,rfl,hc3,hm3,hown3,hcu3,honly3⟩
  generalize hq:Nu.curBytes t 0 0 5=q at *
  obtain ⟨hd,k,e⟩:=q
  have Hq:=Jh hq
  dsimp only at hc3 hown3 hcu3 ⊢
  have hconv:=(own_bytes hown3).conv Tryz.prog c3 33 5 9 Tryz.underlying33 Tryz.underlying5 Tryz.underlying9
  clear hq hown3
  have HC3:=Jh hcu3
  have HF3:Hid (Fr2 w1.heap.size w1.heap.size w1 w3):=Jh (HFc.out.trans (Fr2.of_only honly3))
  have hsz3:w1.heap.size+1≤w3.heap.size:=by have:=honly3.size;omega
  have hz3:=HF3.out.blk HZ1.out (by omega) (by omega)
  have hbw3:Below w.heap.size w w3:=HBW1.out.trans (HF3.out.below (by omega) (by omega) (by omega))
  have HZ3:=Jh hz3
  have HBW3:=Jh hbw3
  clear hcu3 honly3 HCu HFc HF3 HZ1 HBW1
  by_cases hh:hd=head5
  ·have hb5:(hd == [77,65,78,73,1])=true:=by rw [hh];rfl
   have Hh:=Jh hh
   clear hh hz3 hbw3
   go_wp2_with fail
   generalize hgc:w1.heap.size=gc at *
   have hgm:gc<w3.heap.size:=by omega
   have HD0:Hid (Dx 145 53 w3 gc gc w3.heap.size t (w3.alloc (.cells #[.int .i64 0,.int .i64 0,.int .i64 0,.slice none 0 0,.slice none 0 0,.slice none 0 0] 53)) k e #[.int .i64 0,.int .i64 0,.int .i64 0,.slice none 0 0,.slice none 0 0,.slice none 0 0]):=Jh ⟨HC3.out.below ((Below.refl _ _).alloc (Nat.le_refl _) _),Blk.new _ _ _,(Fr2.refl _ _ _).alloc _⟩
   have hszm:(w3.alloc (.cells #[.int .i64 0,.int .i64 0,.int .i64 0,.slice none 0 0,.slice none 0 0,.slice none 0 0] 53)).heap.size=w3.heap.size+1:=by simp
   generalize w3.alloc (.cells #[.int .i64 0,.int .i64 0,.int .i64 0,.slice none 0 0,.slice none 0 0,.slice none 0 0] 53)=v0 at *
   have hne:w3.heap.size≠gc:=by omega
   have hgb:gc≤w3.heap.size:=by omega
   refine (Nu.rNum_calls v0 HD0.out.cur (by omega) (1099511627775) (by decide)).mono ?_
   rintro en1 x1 ⟨rfl,hcur,honly⟩
   generalize hq:Nu.curNum t k e (1099511627775)=q at *
   obtain ⟨g,k1,e1⟩:=q
   have Hq1:=Jh hq
   dsimp only at hcur ⊢
   have HDc:=Jh (HD0.out.call hcur honly hne)
   have cN:x1.cell? ⟨w3.heap.size,0,none⟩=some (.int .i64 0):=HDc.out.blk.cell 0
   have fN:=HDc.out.blk.frozen 0
   have HD1:=Jh (HDc.out.set hne hgb 0 (.int .i64 (g:Int)))
   simp only [Jd,Je,Jf] at HD1
   clear hcur honly HD0 hq HDc
   skip
   go_wp2_with fail
   clear cN fN
   generalize x1.setCell ⟨w3.heap.size,0,none⟩ (.int .i64 (g:Int))=v1 at *
   refine (Nu.rNum_calls v1 HD1.out.cur (by omega) (1099511627775) (by decide)).mono ?_
   rintro en1 x2 ⟨rfl,hcur,honly⟩
   generalize hq:Nu.curNum t k1 e1 (1099511627775)=q at *
   obtain ⟨cu,k2,e2⟩:=q
   have Hq2:=Jh hq
   dsimp only at hcur ⊢
   have HDc:=Jh (HD1.out.call hcur honly hne)
   have cN:x2.cell? ⟨w3.heap.size,1,none⟩=some (.int .i64 0):=HDc.out.blk.cell 1
   have fN:=HDc.out.blk.frozen 1
   have HD2:=Jh (HDc.out.set hne hgb 1 (.int .i64 (cu:Int)))
   simp only [Jd,Je,Jf] at HD2
   clear hcur honly HD1 hq HDc
   skip
   go_wp2_with fail
   clear cN fN
   generalize x2.setCell ⟨w3.heap.size,1,none⟩ (.int .i64 (cu:Int))=v2 at *
   refine (Nu.rNum_calls v2 HD2.out.cur (by omega) (1099511627775) (by decide)).mono ?_
   rintro en1 x3 ⟨rfl,hcur,honly⟩
   generalize hq:Nu.curNum t k2 e2 (1099511627775)=q at *
   obtain ⟨fe,k3,e3⟩:=q
   have Hq3:=Jh hq
   dsimp only at hcur ⊢
   have HDc:=Jh (HD2.out.call hcur honly hne)
   have cN:x3.cell? ⟨w3.heap.size,2,none⟩=some (.int .i64 0):=HDc.out.blk.cell 2
   have fN:=HDc.out.blk.frozen 2
   have HD3:=Jh (HDc.out.set hne hgb 2 (.int .i64 (fe:Int)))
   simp only [Jd,Je,Jf] at HD3
   clear hcur honly HD2 hq HDc
   skip
   go_wp2_with fail
   clear cN fN
   generalize x3.setCell ⟨w3.heap.size,2,none⟩ (.int .i64 (fe:Int))=v3 at *
   generalize hgm0:w3.heap.size=gm at *
   refine (Nu.rNum_calls v3 HD3.out.cur (by omega) (256) (by decide)).mono ?_
   rintro en1 x4 ⟨rfl,hcur,honly⟩
   generalize hq:Nu.curNum t k3 e3 (256)=q at *
   obtain ⟨nE,k4,e4⟩:=q
   have Hq4:=Jh hq
   have hle:=num_le hq (by omega)
   dsimp only at hcur ⊢
   have HD4:=Jh (HD3.out.call hcur honly hne)
   skip
   clear hcur honly HD3 hq
   go_wp2
   have HO4:Hid (x4.ownsRow (gm+1) 85 9 (.slice none 0 0) 0 (([]:List En).flatMap En.cs)):=Jh (World.ownsRow_nil _ _ _ _)
   go_loopw [10] (fun i wr=>∃ (j:Nat) (xs:List En) (kr er:Nat) (Ax:Option Addr) (cx:Nat),j≤nE∧i=.int .i64 (j:Int)∧Hid (rdL (rdE t) j k4 e4=(xs,kr,er))∧Hid (Dx 145 53 w3 gc gc gm t wr kr er #[.int .i64 (g:Int),.int .i64 (cu:Int),.int .i64 (fe:Int),.slice Ax j cx,.slice none 0 0,.slice none 0 0])∧Hid (wr.ownsRow (gm+1) 85 9 (.slice Ax j cx) j (xs.flatMap En.cs))) (fun i _=>nE-(intOf i).toNat)
   case atStart=>exact ⟨0,[],k4,e4,none,0,Nat.zero_le _,rfl,Jh rfl,HD4,HO4⟩
   case round =>
    clear HD4 HO4
    obtain ⟨j,xs,kr,er,Ax,cx,hj,rfl,HQx,HDr,HOr⟩:=hrel
    by_cases hlt:j<nE
    ·have hgr:gm<wr.heap.size:=HDr.out.blk.lt
     have HDx:Hid (Dx 145 85 wr gc gc wr.heap.size t (wr.alloc (.cells #[.string ⟨#[]⟩,.int .i64 0,.string ⟨#[]⟩,.int .i64 0,.int .i64 0,.int .i64 0,.int .i64 0,.int .u32 0,.int .i64 0] 85)) kr er #[.string ⟨#[]⟩,.int .i64 0,.string ⟨#[]⟩,.int .i64 0,.int .i64 0,.int .i64 0,.int .i64 0,.int .u32 0,.int .i64 0]):=Jh ⟨HDr.out.cur.below ((Below.refl _ _).alloc (Nat.le_refl _) _),Blk.new _ _ _,(Fr2.refl _ _ _).alloc _⟩
     go_wp2_with fail
     generalize wr.alloc (.cells #[.string ⟨#[]⟩,.int .i64 0,.string ⟨#[]⟩,.int .i64 0,.int .i64 0,.int .i64 0,.int .i64 0,.int .u32 0,.int .i64 0] 85)=y0 at *
     generalize hgx0:wr.heap.size=gx at *
     have hnx:gx≠gc:=by omega
     have hgx:gc≤gx:=by omega
     refine (Nu.rText_calls y0 HDx.out.cur (by omega) (40) (by decide)).mono ?_
     rintro en1 z1 ⟨rfl,hcur,honly⟩
     generalize hq:Nu.curText t kr er (40)=q at *
     obtain ⟨a1,l1,d1⟩:=q
     have Hq10:=Jh hq
     dsimp only at hcur ⊢
     have HDc:=Jh (HDx.out.call hcur honly hnx)
     have cN:z1.cell? ⟨gx,0,none⟩=some (.string ⟨#[]⟩):=HDc.out.blk.cell 0
     have fN:=HDc.out.blk.frozen 0
     have HE1:=Jh (HDc.out.set hnx hgx 0 (.string ⟨a1.toArray⟩))
     simp only [Jd,Je,Jf] at HE1
     clear hcur honly HDx hq HDc
     skip
     go_wp2_with fail
     clear cN fN
     generalize z1.setCell ⟨gx,0,none⟩ (.string ⟨a1.toArray⟩)=y1 at *
     refine (Nu.rNum_calls y1 HE1.out.cur (by omega) (1099511627775) (by decide)).mono ?_
     rintro en1 z2 ⟨rfl,hcur,honly⟩
     generalize hq:Nu.curNum t l1 d1 (1099511627775)=q at *
     obtain ⟨a2,l2,d2⟩:=q
     have Hq11:=Jh hq
     dsimp only at hcur ⊢
     have HDc:=Jh (HE1.out.call hcur honly hnx)
     have cN:z2.cell? ⟨gx,1,none⟩=some (.int .i64 0):=HDc.out.blk.cell 1
     have fN:=HDc.out.blk.frozen 1
     have HE2:=Jh (HDc.out.set hnx hgx 1 (.int .i64 (a2:Int)))
     simp only [Jd,Je,Jf] at HE2
     clear hcur honly HE1 hq HDc
     skip
     go_wp2_with fail
     clear cN fN
     generalize z2.setCell ⟨gx,1,none⟩ (.int .i64 (a2:Int))=y2 at *
     refine (Nu.rText_calls y2 HE2.out.cur (by omega) (1024) (by decide)).mono ?_
     rintro en1 z3 ⟨rfl,hcur,honly⟩
     generalize hq:Nu.curText t l2 d2 (1024)=q at *
     obtain ⟨a3,l3,d3⟩:=q
     have Hq12:=Jh hq
     dsimp only at hcur ⊢
     have HDc:=Jh (HE2.out.call hcur honly hnx)
     have cN:z3.cell? ⟨gx,2,none⟩=some (.string ⟨#[]⟩):=HDc.out.blk.cell 2
     have fN:=HDc.out.blk.frozen 2
     have HE3:=Jh (HDc.out.set hnx hgx 2 (.string ⟨a3.toArray⟩))
     simp only [Jd,Je,Jf] at HE3
     clear hcur honly HE2 hq HDc
     skip
     go_wp2_with fail
     clear cN fN
     generalize z3.setCell ⟨gx,2,none⟩ (.string ⟨a3.toArray⟩)=y3 at *
     refine (Nu.rNum_calls y3 HE3.out.cur (by omega) (1099511627775) (by decide)).mono ?_
     rintro en1 z4 ⟨rfl,hcur,honly⟩
     generalize hq:Nu.curNum t l3 d3 (1099511627775)=q at *
     obtain ⟨a4,l4,d4⟩:=q
     have Hq13:=Jh hq
     dsimp only at hcur ⊢
     have HDc:=Jh (HE3.out.call hcur honly hnx)
     have cN:z4.cell? ⟨gx,3,none⟩=some (.int .i64 0):=HDc.out.blk.cell 3
     have fN:=HDc.out.blk.frozen 3
     have HE4:=Jh (HDc.out.set hnx hgx 3 (.int .i64 (a4:Int)))
     simp only [Jd,Je,Jf] at HE4
     clear hcur honly HE3 hq HDc
     skip
     go_wp2_with fail
     clear cN fN
     generalize z4.setCell ⟨gx,3,none⟩ (.int .i64 (a4:Int))=y4 at *
     refine (Nu.rNum_calls y4 HE4.out.cur (by omega) (1099511627775) (by decide)).mono ?_
     rintro en1 z5 ⟨rfl,hcur,honly⟩
     generalize hq:Nu.curNum t l4 d4 (1099511627775)=q at *
     obtain ⟨a5,l5,d5⟩:=q
     have Hq14:=Jh hq
     dsimp only at hcur ⊢
     have HDc:=Jh (HE4.out.call hcur honly hnx)
     have cN:z5.cell? ⟨gx,4,none⟩=some (.int .i64 0):=HDc.out.blk.cell 4
     have fN:=HDc.out.blk.frozen 4
     have HE5:=Jh (HDc.out.set hnx hgx 4 (.int .i64 (a5:Int)))
     simp only [Jd,Je,Jf] at HE5
     clear hcur honly HE4 hq HDc
     skip
     go_wp2_with fail
     clear cN fN
     generalize z5.setCell ⟨gx,4,none⟩ (.int .i64 (a5:Int))=y5 at *
     refine (Nu.rNum_calls y5 HE5.out.cur (by omega) (1099511627775) (by decide)).mono ?_
     rintro en1 z6 ⟨rfl,hcur,honly⟩
     generalize hq:Nu.curNum t l5 d5 (1099511627775)=q at *
     obtain ⟨a6,l6,d6⟩:=q
     have Hq15:=Jh hq
     dsimp only at hcur ⊢
     have HDc:=Jh (HE5.out.call hcur honly hnx)
     have cN:z6.cell? ⟨gx,5,none⟩=some (.int .i64 0):=HDc.out.blk.cell 5
     have fN:=HDc.out.blk.frozen 5
     have HE6:=Jh (HDc.out.set hnx hgx 5 (.int .i64 (a6:Int)))
     simp only [Jd,Je,Jf] at HE6
     clear hcur honly HE5 hq HDc
     skip
     go_wp2_with fail
     clear cN fN
     generalize z6.setCell ⟨gx,5,none⟩ (.int .i64 (a6:Int))=y6 at *
     refine (Nu.rNum_calls y6 HE6.out.cur (by omega) (1099511627775) (by decide)).mono ?_
     rintro en1 z7 ⟨rfl,hcur,honly⟩
     generalize hq:Nu.curNum t l6 d6 (1099511627775)=q at *
     obtain ⟨a7,l7,d7⟩:=q
     have Hq16:=Jh hq
     dsimp only at hcur ⊢
     have HDc:=Jh (HE6.out.call hcur honly hnx)
     have cN:z7.cell? ⟨gx,6,none⟩=some (.int .i64 0):=HDc.out.blk.cell 6
     have fN:=HDc.out.blk.frozen 6
     have HE7:=Jh (HDc.out.set hnx hgx 6 (.int .i64 (a7:Int)))
     simp only [Jd,Je,Jf] at HE7
     clear hcur honly HE6 hq HDc
     skip
     go_wp2_with fail
     clear cN fN
     generalize z7.setCell ⟨gx,6,none⟩ (.int .i64 (a7:Int))=y7 at *
     refine (Nu.rNum_calls y7 HE7.out.cur (by omega) (4294967295) (by decide)).mono ?_
     rintro en1 z8 ⟨rfl,hcur,honly⟩
     generalize hq:Nu.curNum t l7 d7 (4294967295)=q at *
     obtain ⟨a8,l8,d8⟩:=q
     have Hq17:=Jh hq
     dsimp only at hcur ⊢
     have HDc:=Jh (HE7.out.call hcur honly hnx)
     have cN:z8.cell? ⟨gx,7,none⟩=some (.int .u32 0):=HDc.out.blk.cell 7
     have fN:=HDc.out.blk.frozen 7
     have HE8:=Jh (HDc.out.set hnx hgx 7 (.int .u32 (a8:Int)))
     simp only [Jd,Je,Jf] at HE8
     clear hcur honly HE7 hq HDc
     have hw32:IntKind.u32.wrap (a8:Int)=(a8:Int):=by have:=num_le Hq17.out (by omega);rw [IntKind.wrap_u32];omega
     go_wp2_with fail
     clear cN fN
     generalize z8.setCell ⟨gx,7,none⟩ (.int .u32 (a8:Int))=y8 at *
     refine (Nu.rNum_calls y8 HE8.out.cur (by omega) (1099511627775) (by decide)).mono ?_
     rintro en1 z9 ⟨rfl,hcur,honly⟩
     generalize hq:Nu.curNum t l8 d8 (1099511627775)=q at *
     obtain ⟨a9,l9,d9⟩:=q
     have Hq18:=Jh hq
     dsimp only at hcur ⊢
     have HDc:=Jh (HE8.out.call hcur honly hnx)
     have cN:z9.cell? ⟨gx,8,none⟩=some (.int .i64 0):=HDc.out.blk.cell 8
     have fN:=HDc.out.blk.frozen 8
     have HE9:=Jh (HDc.out.set hnx hgx 8 (.int .i64 (a9:Int)))
     simp only [Jd,Je,Jf] at HE9
     clear hcur honly HE8 hq HDc
     skip
     go_upto_region 26 with fail
     clear cN fN
     generalize z9.setCell ⟨gx,8,none⟩ (.int .i64 (a9:Int))=y9 at *
     have hgmx:gm≠gx:=by omega
     have HBg:=Jh (HE9.out.fr.blk HDr.out.blk hne hgmx)
     have HOy:=Jh ((HE9.out.fr.own2 HOr.out (by omega) (by omega)).alloc (.cells #[.string ⟨a1.toArray⟩,.int .i64 (a2:Int),.string ⟨a3.toArray⟩,.int .i64 (a4:Int),.int .i64 (a5:Int),.int .i64 (a6:Int),.int .i64 (a7:Int),.int .u32 (a8:Int),.int .i64 (a9:Int)] 85))
     have HQ2:=Jh (rdL_s HQx.out (show rdE t kr er=(⟨⟨a1.toArray⟩,a2,⟨a3.toArray⟩,a4,a5,a6,a7,a8,a9⟩,l9,d9) by simp only [rdE,most,Hq10.out,Hq11.out,Hq12.out,Hq13.out,Hq14.out,Hq15.out,Hq16.out,Hq17.out,Hq18.out]))
     have HFr:Hid (Fr2 gc gm w3 y9):=Jh (HDr.out.fr.trans (HE9.out.fr.any (by omega)))
     have HCy:=Jh HE9.out.cur
     have hszy:gx<y9.heap.size:=HE9.out.blk.lt
     have hgy:y9.cell? ⟨gm,0,none⟩=some (.int .i64 (g:Int))∧y9.cell? ⟨gm,1,none⟩=some (.int .i64 (cu:Int))∧y9.cell? ⟨gm,2,none⟩=some (.int .i64 (fe:Int))∧y9.cell? ⟨gm,3,none⟩=some (.slice Ax j cx)∧y9.cell? ⟨gm,4,none⟩=some (.slice none 0 0)∧y9.cell? ⟨gm,5,none⟩=some (.slice none 0 0):=⟨HBg.out.cell 0,HBg.out.cell 1,HBg.out.cell 2,HBg.out.cell 3,HBg.out.cell 4,HBg.out.cell 5⟩
     obtain ⟨q0,q1,q2,q3,q4,q5⟩:=hgy
     have hxy:y9.cell? ⟨gx,0,none⟩=some (.string ⟨a1.toArray⟩)∧y9.cell? ⟨gx,1,none⟩=some (.int .i64 (a2:Int))∧y9.cell? ⟨gx,2,none⟩=some (.string ⟨a3.toArray⟩)∧y9.cell? ⟨gx,3,none⟩=some (.int .i64 (a4:Int))∧y9.cell? ⟨gx,4,none⟩=some (.int .i64 (a5:Int))∧y9.cell? ⟨gx,5,none⟩=some (.int .i64 (a6:Int))∧y9.cell? ⟨gx,6,none⟩=some (.int .i64 (a7:Int))∧y9.cell? ⟨gx,7,none⟩=some (.int .u32 (a8:Int))∧y9.cell? ⟨gx,8,none⟩=some (.int .i64 (a9:Int)):=⟨HE9.out.blk.cell 0,HE9.out.blk.cell 1,HE9.out.blk.cell 2,HE9.out.blk.cell 3,HE9.out.blk.cell 4,HE9.out.blk.cell 5,HE9.out.blk.cell 6,HE9.out.blk.cell 7,HE9.out.blk.cell 8⟩
     obtain ⟨p0,p1,p2,p3,p4,p5,p6,p7,p8⟩:=hxy
     have hrd:Reads (y9.alloc (.cells #[.string ⟨a1.toArray⟩,.int .i64 (a2:Int),.string ⟨a3.toArray⟩,.int .i64 (a4:Int),.int .i64 (a5:Int),.int .i64 (a6:Int),.int .i64 (a7:Int),.int .u32 (a8:Int),.int .i64 (a9:Int)] 85)) (y9.heap.size+1) 9 (some ⟨y9.heap.size,0,none⟩) 1 (En.cs ⟨⟨a1.toArray⟩,a2,⟨a3.toArray⟩,a4,a5,a6,a7,a8,a9⟩):=Reads.made (n:=1) (size:=9) y9 _ 85 rfl
     have HBgA:=Jh (HBg.out.alloc (.cells #[.string ⟨a1.toArray⟩,.int .i64 (a2:Int),.string ⟨a3.toArray⟩,.int .i64 (a4:Int),.int .i64 (a5:Int),.int .i64 (a6:Int),.int .i64 (a7:Int),.int .u32 (a8:Int),.int .i64 (a9:Int)] 85))
     clear Hq10 Hq11 Hq12 Hq13 Hq14 Hq15 Hq16 Hq17 Hq18 HE9 HDr HOr HQx HBg
     go_wp2_with (at_builtin;go_must (refine wpList_append_sl _ rfl (.tmp 89) (.tmp 91) _ rfl (gm+1) 85 _ 9 88 Tryz.underlying22 Tryz.infoEn rfl (by omega) _ _ _ rfl HOy.out (y9.heap.size+1) _ 1 1 _ rfl hrd (ecs1' _) (by unfold maxLen;omega) (by omega) (by simp;omega) ?_))
     intro A5 c5 w5 hc51 hc52 hr5 hbel5 hown5 hgr5 hob5
     have hB5:=HBgA.out.below hbel5 (by omega)
     have q3':w5.cell? ⟨gm,3,none⟩=some (.slice Ax j cx):=hB5.cell 3
     have f3':=hB5.frozen 3
     have hcu5:=cur_low (HCy.out.below ((Below.refl _ _).alloc (Nat.le_refl _) (.cells #[.string ⟨a1.toArray⟩,.int .i64 (a2:Int),.string ⟨a3.toArray⟩,.int .i64 (a4:Int),.int .i64 (a5:Int),.int .i64 (a6:Int),.int .i64 (a7:Int),.int .u32 (a8:Int),.int .i64 (a9:Int)] 85))) hbel5 (by omega)
     have hfr5:Fr2 gc gm w3 w5:=(HFr.out.alloc _).grown hgr5 (fun g hg=>by have:=(HOy.out.lt g hg).1;omega)
     have HD5:=Jh ((Dx.mk (T:=53) hcu5 hB5 hfr5).set hne hgb 3 (.slice A5 (j+1) c5))
     have HO5:Hid ((w5.setCell ⟨gm,3,none⟩ (.slice A5 (j+1) c5)).ownsRow (gm+1) 85 9 (.slice A5 (j+1) c5) (j+1) ((xs++[(⟨⟨a1.toArray⟩,a2,⟨a3.toArray⟩,a4,a5,a6,a7,a8,a9⟩:En)]).flatMap En.cs)):=Jh (by
      rw [List.flatMap_append,show [(⟨⟨a1.toArray⟩,a2,⟨a3.toArray⟩,a4,a5,a6,a7,a8,a9⟩:En)].flatMap En.cs=En.cs ⟨⟨a1.toArray⟩,a2,⟨a3.toArray⟩,a4,a5,a6,a7,a8,a9⟩ by simp]
      exact own_only hown5 ((Only.refl gm w5).setCell (.inl rfl) _) (by omega))
     simp only [Jd,Je,Jf] at HD5
     clear hc51 hc52 hr5 hbel5 hown5 hgr5 hob5 hB5 hcu5 hfr5 HCy HFr HBgA HOy hrd p0 p1 p2 p3 p4 p5 p6 p7 p8 q0 q1 q2 q3 q4 q5
     go_wp2
     go_roundw
     case rel=>exact ⟨j+1,_,l9,d9,A5,c5,by omega,by go_num,HQ2,HD5,HO5⟩
     case measure=>simp [intOf];omega
    obtain rfl:j=nE:=by omega
    have hEl:j=xs.length:=by have:=congrArg (fun r=>r.1.length) HQx.out;rw [rdL_len] at this;exact this
    subst hEl
    have HQE:=HQx
    have HDE:=HDr
    have HOE:=HOr
    clear HQx HDr HOr
    go_wp2_with fail
    refine (Nu.rNum_calls wr HDE.out.cur (by omega) (64) (by decide)).mono ?_
    rintro en1 x5 ⟨rfl,hcur,honly⟩
    generalize hq:Nu.curNum t kr er (64)=q at *
    obtain ⟨nM,k5,e5⟩:=q
    have HqNnM:=Jh hq
    have hle:=num_le hq (by omega)
    dsimp only at hcur ⊢
    have HDs:=Jh (HDE.out.call hcur honly hne)
    have HKE0:=Jh (KeptRow.of ((Fr2.of_only honly:Fr2 gc gm wr x5).own HOE.out (by omega) (by omega)));have hgl5:gm<x5.heap.size:=(HDE.out.call hcur honly hne).blk.lt
    clear hcur honly HDE hq
    go_wp2
    have HKM0:Hid (KeptRow (gm+1) x5.heap.size 90 2 0 (.slice none 0 0) [] x5):=Jh KeptRow.nil
    clear HOE
    have HOs:Hid (x5.ownsRow x5.heap.size 90 2 (.slice none 0 0) 0 (([]:List Mk).flatMap Mk.cs)):=Jh (World.ownsRow_nil _ _ _ _)
    generalize hbbnM:x5.heap.size=bM at *
    go_loopw [12] (fun i wr=>∃ (j:Nat) (ls:List Mk) (kr er:Nat) (Al:Option Addr) (cl:Nat),j≤nM∧i=.int .i64 (j:Int)∧Hid (rdL (rdK t) j k5 e5=(ls,kr,er))∧Hid (Dx 145 53 w3 gc gc gm t wr kr er #[.int .i64 (g:Int),.int .i64 (cu:Int),.int .i64 (fe:Int),.slice Ax xs.length cx,.slice Al j cl,.slice none 0 0])∧Hid (wr.ownsRow bM 90 2 (.slice Al j cl) j (ls.flatMap Mk.cs))∧Hid (KeptRow (gm+1) bM 85 9 xs.length (.slice Ax xs.length cx) (xs.flatMap En.cs) wr)∧Hid (KeptRow (gm+1) bM 90 2 (0:Nat) (.slice none 0 0) [] wr)∧bM≤wr.heap.size) (fun i _=>nM-(intOf i).toNat)
    case atStart=>exact ⟨0,[],k5,e5,none,0,Nat.zero_le _,rfl,Jh rfl,HDs,HOs,HKE0,HKM0,Nat.le_of_eq hbbnM.symm⟩
    case round =>
     clear HDs HOs HKE0 HKM0
     obtain ⟨j,ls,kr,er,Al,cl,hj,rfl,HQl,HDr,HOr,HKE,HKM,hbw⟩:=hrel
     by_cases hlt:j<nM
     ·have HDx:Hid (Dx 145 90 wr gc gc wr.heap.size t (wr.alloc (.cells #[.int .i64 0,.int .i64 0] 90)) kr er #[.int .i64 0,.int .i64 0]):=Jh ⟨HDr.out.cur.below ((Below.refl _ _).alloc (Nat.le_refl _) _),Blk.new _ _ _,(Fr2.refl _ _ _).alloc _⟩
      go_wp2_with fail
      generalize wr.alloc (.cells #[.int .i64 0,.int .i64 0] 90)=y0 at *
      generalize hgx0:wr.heap.size=gx at *
      have hnx:gx≠gc:=by omega
      have hgx:gc≤gx:=by omega
      refine (Nu.rNum_calls y0 HDx.out.cur (by omega) (1099511627775) (by decide)).mono ?_
      rintro en1 z1 ⟨rfl,hcur,honly⟩
      generalize hq:Nu.curNum t kr er (1099511627775)=q at *
      obtain ⟨a1,l1,d1⟩:=q
      have Hq10:=Jh hq
      dsimp only at hcur ⊢
      have HDc:=Jh (HDx.out.call hcur honly hnx)
      have cN:z1.cell? ⟨gx,0,none⟩=some (.int .i64 0):=HDc.out.blk.cell 0
      have fN:=HDc.out.blk.frozen 0
      have HE1:=Jh (HDc.out.set hnx hgx 0 (.int .i64 (a1:Int)))
      simp only [Jd,Je,Jf] at HE1
      clear hcur honly HDx hq HDc
      skip
      go_wp2_with fail
      clear cN fN
      generalize z1.setCell ⟨gx,0,none⟩ (.int .i64 (a1:Int))=y1 at *
      refine (Nu.rNum_calls y1 HE1.out.cur (by omega) (1099511627775) (by decide)).mono ?_
      rintro en1 z2 ⟨rfl,hcur,honly⟩
      generalize hq:Nu.curNum t l1 d1 (1099511627775)=q at *
      obtain ⟨a2,l2,d2⟩:=q
      have Hq11:=Jh hq
      dsimp only at hcur ⊢
      have HDc:=Jh (HE1.out.call hcur honly hnx)
      have cN:z2.cell? ⟨gx,1,none⟩=some (.int .i64 0):=HDc.out.blk.cell 1
      have fN:=HDc.out.blk.frozen 1
      have HE2:=Jh (HDc.out.set hnx hgx 1 (.int .i64 (a2:Int)))
      simp only [Jd,Je,Jf] at HE2
      clear hcur honly HE1 hq HDc
      skip
      go_upto_region 34 with fail
      clear cN fN
      generalize z2.setCell ⟨gx,1,none⟩ (.int .i64 (a2:Int))=y2 at *
      have hgmx:gm≠gx:=by omega
      have HBg:=Jh (HE2.out.fr.blk HDr.out.blk hne hgmx)
      have HOy:=Jh ((HE2.out.fr.own2 HOr.out (by omega) (by omega)).alloc (.cells #[.int .i64 (a1:Int),.int .i64 (a2:Int)] 90))
      have HKEy:=Jh ((HKE.out.fr HE2.out.fr (by omega) (by omega)).alloc (.cells #[.int .i64 (a1:Int),.int .i64 (a2:Int)] 90))
      have HKMy:=Jh ((HKM.out.fr HE2.out.fr (by omega) (by omega)).alloc (.cells #[.int .i64 (a1:Int),.int .i64 (a2:Int)] 90))
      have HQ2:=Jh (rdL_s HQl.out (show rdK t kr er=(⟨a1,a2⟩,l2,d2) by simp only [rdK,most,Hq10.out,Hq11.out]))
      have HFr:Hid (Fr2 gc gm w3 y2):=Jh (HDr.out.fr.trans (HE2.out.fr.any (by omega)))
      have HCy:=Jh HE2.out.cur
      have hszy:gx<y2.heap.size:=HE2.out.blk.lt
      have hgy:y2.cell? ⟨gm,0,none⟩=some (.int .i64 (g:Int))∧y2.cell? ⟨gm,1,none⟩=some (.int .i64 (cu:Int))∧y2.cell? ⟨gm,2,none⟩=some (.int .i64 (fe:Int))∧y2.cell? ⟨gm,3,none⟩=some (.slice Ax xs.length cx)∧y2.cell? ⟨gm,4,none⟩=some (.slice Al j cl)∧y2.cell? ⟨gm,5,none⟩=some (.slice none 0 0):=⟨HBg.out.cell 0,HBg.out.cell 1,HBg.out.cell 2,HBg.out.cell 3,HBg.out.cell 4,HBg.out.cell 5⟩
      obtain ⟨q0,q1,q2,q3,q4,q5⟩:=hgy
      have hxy:y2.cell? ⟨gx,0,none⟩=some (.int .i64 (a1:Int))∧y2.cell? ⟨gx,1,none⟩=some (.int .i64 (a2:Int)):=⟨HE2.out.blk.cell 0,HE2.out.blk.cell 1⟩
      obtain ⟨p0,p1⟩:=hxy
      have hrd:Reads (y2.alloc (.cells #[.int .i64 (a1:Int),.int .i64 (a2:Int)] 90)) (y2.heap.size+1) 2 (some ⟨y2.heap.size,0,none⟩) 1 (Mk.cs ⟨a1,a2⟩):=Reads.made (n:=1) (size:=2) y2 _ 90 rfl
      have HBgA:=Jh (HBg.out.alloc (.cells #[.int .i64 (a1:Int),.int .i64 (a2:Int)] 90))
      clear Hq10 Hq11 HE2 HDr HOr HQl HBg HKE HKM
      go_wp2_with (at_builtin;go_must (refine wpList_append_sl _ rfl (.tmp 111) (.tmp 113) _ rfl bM 90 _ 2 16 Tryz.underlying24 Tryz.infoMk rfl (by omega) _ _ _ rfl HOy.out (y2.heap.size+1) _ 1 1 _ rfl hrd (mcs1' _) (by unfold maxLen;omega) (by omega) (by simp;omega) ?_))
      intro A5 c5 w5 hc51 hc52 hr5 hbel5 hown5 hgr5 hob5
      have hB5:=HBgA.out.below hbel5 (by omega)
      have q3':w5.cell? ⟨gm,4,none⟩=some (.slice Al j cl):=hB5.cell 4
      have f3':=hB5.frozen 4
      have hrw:∀ g,(Value.slice Al j cl).ownBlock=some g→bM≤g:=fun g hg=>(HOy.out.lt g hg).1
      have hcu5:=cur_low (HCy.out.below ((Below.refl _ _).alloc (Nat.le_refl _) (.cells #[.int .i64 (a1:Int),.int .i64 (a2:Int)] 90))) hbel5 (by omega)
      have hfr5:Fr2 gc gm w3 w5:=(HFr.out.alloc _).grown hgr5 (fun g hg=>by have:=hrw g hg;omega)
      have HKE5:=Jh ((HKEy.out.grown hgr5 hrw).set (g:=gm) (by omega) 4 (.slice A5 (j+1) c5))
      have HKM5:=Jh ((HKMy.out.grown hgr5 hrw).set (g:=gm) (by omega) 4 (.slice A5 (j+1) c5))
      have hsz5:bM≤(w5.setCell ⟨gm,4,none⟩ (.slice A5 (j+1) c5)).heap.size:=by have:=hgr5.size;simp at this ⊢;omega
      have HD5:=Jh ((Dx.mk (T:=53) hcu5 hB5 hfr5).set hne hgb 4 (.slice A5 (j+1) c5))
      have HO5:Hid ((w5.setCell ⟨gm,4,none⟩ (.slice A5 (j+1) c5)).ownsRow bM 90 2 (.slice A5 (j+1) c5) (j+1) ((ls++[(⟨a1,a2⟩:Mk)]).flatMap Mk.cs)):=Jh (by
       rw [List.flatMap_append,show [(⟨a1,a2⟩:Mk)].flatMap Mk.cs=Mk.cs ⟨a1,a2⟩ by simp]
       exact own_only hown5 ((Only.refl gm w5).setCell (.inl rfl) _) (by omega))
      simp only [Jd,Je,Jf] at HD5
      clear hc51 hc52 hr5 hbel5 hown5 hgr5 hob5 hB5 hcu5 hfr5 HCy HFr HBgA HOy hrd HKEy HKMy hrw p0 p1 q0 q1 q2 q3 q4 q5
      go_wp2
      go_roundw
      case rel=>exact ⟨j+1,_,l2,d2,A5,c5,by omega,by go_num,HQ2,HD5,HO5,HKE5,HKM5,hsz5⟩
      case measure=>simp [intOf];omega
     obtain rfl:j=nM:=by omega
     have hMl:j=ls.length:=by have:=congrArg (fun r=>r.1.length) HQl.out;rw [rdL_len] at this;exact this
     subst hMl
     generalize ls=ms at *
     generalize Al=Am at *
     generalize cl=cm at *
     have HQM:=HQl
     have HDM:=HDr
     have HOM:=HOr
     clear HQl HDr HOr
     go_wp2_with fail
     refine (Nu.rNum_calls wr HDM.out.cur (by omega) (8) (by decide)).mono ?_
     rintro en1 x6 ⟨rfl,hcur,honly⟩
     generalize hq:Nu.curNum t kr er (8)=q at *
     obtain ⟨nO,k6,e6⟩:=q
     have HqNnO:=Jh hq
     have hle:=num_le hq (by omega)
     dsimp only at hcur ⊢
     have HDs:=Jh (HDM.out.call hcur honly hne)
     have HKE0:=Jh (KeptRow.of ((Fr2.of_only honly:Fr2 gc gm wr x6).own HKE.out.1 (by omega) (by omega)));have HKM0:=Jh (KeptRow.of ((Fr2.of_only honly:Fr2 gc gm wr x6).own HOM.out (by omega) (by omega)));have hgl6:gm<x6.heap.size:=(HDM.out.call hcur honly hne).blk.lt
     clear hcur honly HDM hq
     go_wp2
     clear HKE HKM HOM
     have HOs:Hid (x6.ownsRow x6.heap.size 26 3 (.slice none 0 0) 0 (([]:List Ow).flatMap Ow.cs)):=Jh (World.ownsRow_nil _ _ _ _)
     generalize hbbnO:x6.heap.size=bO at *
     go_loopw [14] (fun i wr=>∃ (j:Nat) (ls:List Ow) (kr er:Nat) (Al:Option Addr) (cl:Nat),j≤nO∧i=.int .i64 (j:Int)∧Hid (rdL (rdO t) j k6 e6=(ls,kr,er))∧Hid (Dx 145 53 w3 gc gc gm t wr kr er #[.int .i64 (g:Int),.int .i64 (cu:Int),.int .i64 (fe:Int),.slice Ax xs.length cx,.slice Am ms.length cm,.slice Al j cl])∧Hid (wr.ownsRow bO 26 3 (.slice Al j cl) j (ls.flatMap Ow.cs))∧Hid (KeptRow (gm+1) bO 85 9 xs.length (.slice Ax xs.length cx) (xs.flatMap En.cs) wr)∧Hid (KeptRow bM bO 90 2 ms.length (.slice Am ms.length cm) (ms.flatMap Mk.cs) wr)∧bO≤wr.heap.size) (fun i _=>nO-(intOf i).toNat)
     case atStart=>exact ⟨0,[],k6,e6,none,0,Nat.zero_le _,rfl,Jh rfl,HDs,HOs,HKE0,HKM0,Nat.le_of_eq hbbnO.symm⟩
     case round =>
      clear HDs HOs HKE0 HKM0
      obtain ⟨j,ls,kr,er,Al,cl,hj,rfl,HQl,HDr,HOr,HKE,HKM,hbw⟩:=hrel
      by_cases hlt:j<nO
      ·have HDx:Hid (Dx 145 26 wr gc gc wr.heap.size t (wr.alloc (.cells #[.int .i64 0,.int .i64 0,.int .i64 0] 26)) kr er #[.int .i64 0,.int .i64 0,.int .i64 0]):=Jh ⟨HDr.out.cur.below ((Below.refl _ _).alloc (Nat.le_refl _) _),Blk.new _ _ _,(Fr2.refl _ _ _).alloc _⟩
       go_wp2_with fail
       generalize wr.alloc (.cells #[.int .i64 0,.int .i64 0,.int .i64 0] 26)=y0 at *
       generalize hgx0:wr.heap.size=gx at *
       have hnx:gx≠gc:=by omega
       have hgx:gc≤gx:=by omega
       refine (Nu.rNum_calls y0 HDx.out.cur (by omega) (1099511627775) (by decide)).mono ?_
       rintro en1 z1 ⟨rfl,hcur,honly⟩
       generalize hq:Nu.curNum t kr er (1099511627775)=q at *
       obtain ⟨a1,l1,d1⟩:=q
       have Hq10:=Jh hq
       dsimp only at hcur ⊢
       have HDc:=Jh (HDx.out.call hcur honly hnx)
       have cN:z1.cell? ⟨gx,0,none⟩=some (.int .i64 0):=HDc.out.blk.cell 0
       have fN:=HDc.out.blk.frozen 0
       have HE1:=Jh (HDc.out.set hnx hgx 0 (.int .i64 (a1:Int)))
       simp only [Jd,Je,Jf] at HE1
       clear hcur honly HDx hq HDc
       skip
       go_wp2_with fail
       clear cN fN
       generalize z1.setCell ⟨gx,0,none⟩ (.int .i64 (a1:Int))=y1 at *
       refine (Nu.rNum_calls y1 HE1.out.cur (by omega) (1099511627775) (by decide)).mono ?_
       rintro en1 z2 ⟨rfl,hcur,honly⟩
       generalize hq:Nu.curNum t l1 d1 (1099511627775)=q at *
       obtain ⟨a2,l2,d2⟩:=q
       have Hq11:=Jh hq
       dsimp only at hcur ⊢
       have HDc:=Jh (HE1.out.call hcur honly hnx)
       have cN:z2.cell? ⟨gx,1,none⟩=some (.int .i64 0):=HDc.out.blk.cell 1
       have fN:=HDc.out.blk.frozen 1
       have HE2:=Jh (HDc.out.set hnx hgx 1 (.int .i64 (a2:Int)))
       simp only [Jd,Je,Jf] at HE2
       clear hcur honly HE1 hq HDc
       skip
       go_wp2_with fail
       clear cN fN
       generalize z2.setCell ⟨gx,1,none⟩ (.int .i64 (a2:Int))=y2 at *
       refine (Nu.rNum_calls y2 HE2.out.cur (by omega) (1099511627775) (by decide)).mono ?_
       rintro en1 z3 ⟨rfl,hcur,honly⟩
       generalize hq:Nu.curNum t l2 d2 (1099511627775)=q at *
       obtain ⟨a3,l3,d3⟩:=q
       have Hq12:=Jh hq
       dsimp only at hcur ⊢
       have HDc:=Jh (HE2.out.call hcur honly hnx)
       have cN:z3.cell? ⟨gx,2,none⟩=some (.int .i64 0):=HDc.out.blk.cell 2
       have fN:=HDc.out.blk.frozen 2
       have HE3:=Jh (HDc.out.set hnx hgx 2 (.int .i64 (a3:Int)))
       simp only [Jd,Je,Jf] at HE3
       clear hcur honly HE2 hq HDc
       skip
       go_upto_region 43 with fail
       clear cN fN
       generalize z3.setCell ⟨gx,2,none⟩ (.int .i64 (a3:Int))=y3 at *
       have hgmx:gm≠gx:=by omega
       have HBg:=Jh (HE3.out.fr.blk HDr.out.blk hne hgmx)
       have HOy:=Jh ((HE3.out.fr.own2 HOr.out (by omega) (by omega)).alloc (.cells #[.int .i64 (a1:Int),.int .i64 (a2:Int),.int .i64 (a3:Int)] 26))
       have HKEy:=Jh ((HKE.out.fr HE3.out.fr (by omega) (by omega)).alloc (.cells #[.int .i64 (a1:Int),.int .i64 (a2:Int),.int .i64 (a3:Int)] 26))
       have HKMy:=Jh ((HKM.out.fr HE3.out.fr (by omega) (by omega)).alloc (.cells #[.int .i64 (a1:Int),.int .i64 (a2:Int),.int .i64 (a3:Int)] 26))
       have HQ2:=Jh (rdL_s HQl.out (show rdO t kr er=(⟨a1,a2,a3⟩,l3,d3) by simp only [rdO,most,Hq10.out,Hq11.out,Hq12.out]))
       have HFr:Hid (Fr2 gc gm w3 y3):=Jh (HDr.out.fr.trans (HE3.out.fr.any (by omega)))
       have HCy:=Jh HE3.out.cur
       have hszy:gx<y3.heap.size:=HE3.out.blk.lt
       have hgy:y3.cell? ⟨gm,0,none⟩=some (.int .i64 (g:Int))∧y3.cell? ⟨gm,1,none⟩=some (.int .i64 (cu:Int))∧y3.cell? ⟨gm,2,none⟩=some (.int .i64 (fe:Int))∧y3.cell? ⟨gm,3,none⟩=some (.slice Ax xs.length cx)∧y3.cell? ⟨gm,4,none⟩=some (.slice Am ms.length cm)∧y3.cell? ⟨gm,5,none⟩=some (.slice Al j cl):=⟨HBg.out.cell 0,HBg.out.cell 1,HBg.out.cell 2,HBg.out.cell 3,HBg.out.cell 4,HBg.out.cell 5⟩
       obtain ⟨q0,q1,q2,q3,q4,q5⟩:=hgy
       have hxy:y3.cell? ⟨gx,0,none⟩=some (.int .i64 (a1:Int))∧y3.cell? ⟨gx,1,none⟩=some (.int .i64 (a2:Int))∧y3.cell? ⟨gx,2,none⟩=some (.int .i64 (a3:Int)):=⟨HE3.out.blk.cell 0,HE3.out.blk.cell 1,HE3.out.blk.cell 2⟩
       obtain ⟨p0,p1,p2⟩:=hxy
       have hrd:Reads (y3.alloc (.cells #[.int .i64 (a1:Int),.int .i64 (a2:Int),.int .i64 (a3:Int)] 26)) (y3.heap.size+1) 3 (some ⟨y3.heap.size,0,none⟩) 1 (Ow.cs ⟨a1,a2,a3⟩):=Reads.made (n:=1) (size:=3) y3 _ 26 rfl
       have HBgA:=Jh (HBg.out.alloc (.cells #[.int .i64 (a1:Int),.int .i64 (a2:Int),.int .i64 (a3:Int)] 26))
       clear Hq10 Hq11 Hq12 HE3 HDr HOr HQl HBg HKE HKM
       go_wp2_with (at_builtin;go_must (refine wpList_append_sl _ rfl (.tmp 137) (.tmp 139) _ rfl bO 26 _ 3 24 Tryz.underlying51 Tryz.infoOw rfl (by omega) _ _ _ rfl HOy.out (y3.heap.size+1) _ 1 1 _ rfl hrd (ocs1' _) (by unfold maxLen;omega) (by omega) (by simp;omega) ?_))
       intro A5 c5 w5 hc51 hc52 hr5 hbel5 hown5 hgr5 hob5
       have hB5:=HBgA.out.below hbel5 (by omega)
       have q3':w5.cell? ⟨gm,5,none⟩=some (.slice Al j cl):=hB5.cell 5
       have f3':=hB5.frozen 5
       have hrw:∀ g,(Value.slice Al j cl).ownBlock=some g→bO≤g:=fun g hg=>(HOy.out.lt g hg).1
       have hcu5:=cur_low (HCy.out.below ((Below.refl _ _).alloc (Nat.le_refl _) (.cells #[.int .i64 (a1:Int),.int .i64 (a2:Int),.int .i64 (a3:Int)] 26))) hbel5 (by omega)
       have hfr5:Fr2 gc gm w3 w5:=(HFr.out.alloc _).grown hgr5 (fun g hg=>by have:=hrw g hg;omega)
       have HKE5:=Jh ((HKEy.out.grown hgr5 hrw).set (g:=gm) (by omega) 5 (.slice A5 (j+1) c5))
       have HKM5:=Jh ((HKMy.out.grown hgr5 hrw).set (g:=gm) (by omega) 5 (.slice A5 (j+1) c5))
       have hsz5:bO≤(w5.setCell ⟨gm,5,none⟩ (.slice A5 (j+1) c5)).heap.size:=by have:=hgr5.size;simp at this ⊢;omega
       have HD5:=Jh ((Dx.mk (T:=53) hcu5 hB5 hfr5).set hne hgb 5 (.slice A5 (j+1) c5))
       have HO5:Hid ((w5.setCell ⟨gm,5,none⟩ (.slice A5 (j+1) c5)).ownsRow bO 26 3 (.slice A5 (j+1) c5) (j+1) ((ls++[(⟨a1,a2,a3⟩:Ow)]).flatMap Ow.cs)):=Jh (by
        rw [List.flatMap_append,show [(⟨a1,a2,a3⟩:Ow)].flatMap Ow.cs=Ow.cs ⟨a1,a2,a3⟩ by simp]
        exact own_only hown5 ((Only.refl gm w5).setCell (.inl rfl) _) (by omega))
       simp only [Jd,Je,Jf] at HD5
       clear hc51 hc52 hr5 hbel5 hown5 hgr5 hob5 hB5 hcu5 hfr5 HCy HFr HBgA HOy hrd HKEy HKMy hrw p0 p1 p2 q0 q1 q2 q3 q4 q5
       go_wp2
       go_roundw
       case rel=>exact ⟨j+1,_,l3,d3,A5,c5,by omega,by go_num,HQ2,HD5,HO5,HKE5,HKM5,hsz5⟩
       case measure=>simp [intOf];omega
      obtain rfl:j=nO:=by omega
      have hOl:j=ls.length:=by have:=congrArg (fun r=>r.1.length) HQl.out;rw [rdL_len] at this;exact this
      subst hOl
      have HRM:=Jh (show rdM t k e=((⟨g,cu,fe,xs,ms,ls⟩:Md),kr,er) by simp only [rdM,most,Hq1.out,Hq2.out,Hq3.out,Hq4.out,HQE.out,HqNnM.out,HQM.out,HqNnO.out,HQl.out])
      have HDec:=Jh (HDB.out.trans (decT_eq Hq.out HRM.out))
      have hall:=rd_all HQE.out
      have hbm:=HKM.out.1
      have HMw:Hid (Mow wr (w.heap.size+1) (⟨g,cu,fe,xs,ms,ls⟩:Md) ⟨Ax,cx,Am,cm,Al,cl⟩):=Jh (Mow.mk3 HKE.out.1 HKM.out.1 HOr.out (by omega) (by omega) (by omega))
      have HZr:=Jh (HDr.out.fr.blk HZ3.out (by omega) (by omega))
      have HBr:Hid (Below w.heap.size w wr):=Jh (HBW3.out.trans (HDr.out.fr.below (by omega) (by omega) (by omega)))
      have HGr:=Jh HDr.out.blk
      have hlx:xs.length≤17592186044416∧ms.length≤17592186044416∧ls.length≤17592186044416:=by omega
      have HEn:=Jh (Nu.rEnd_calls wr HDr.out.cur)
      clear HQE HQM HQl HqNnM HqNnO Hq1 Hq2 Hq3 Hq4 Hq HRM HDB HKE HKM HOr HDr hbm HZ3 HBW3
      generalize hcd:Nu.curEnd t kr er=ce at *
      have Hcd:=Jh hcd
      clear hcd
      go_wp2_with fail
      refine HEn.out.mono ?_
      rintro e1 w' ⟨rfl,dn,rfl⟩
      have HMw:=Jh (HMw.out.drewN dn)
      have hzr:=HZr.out.drewN dn
      have HBr:=Jh (below_drewN_ HBr.out dn)
      have hgr:=HGr.out.drewN dn
      generalize wr.drewN dn=wd at *
      have HZd:=Jh hzr
      clear HEn HZr HGr
      by_cases h0:ce=0
      ·subst h0
       simp only [Int.natCast_zero]
       have HRt:=Jh (rightR_calls wd (HMw.out.man hlx.1 hlx.2.1 hlx.2.2 fun x hx=>(hall x hx).1) (Nat.le_refl _) fun x hx=>by have:=(hall x hx).2.2;omega)
       obtain ⟨q0,q1,q2,q3,q4,q5⟩:wd.cell? ⟨gm,0,none⟩=some (.int .i64 (g:Int))∧wd.cell? ⟨gm,1,none⟩=some (.int .i64 (cu:Int))∧wd.cell? ⟨gm,2,none⟩=some (.int .i64 (fe:Int))∧wd.cell? ⟨gm,3,none⟩=some (.slice Ax xs.length cx)∧wd.cell? ⟨gm,4,none⟩=some (.slice Am ms.length cm)∧wd.cell? ⟨gm,5,none⟩=some (.slice Al ls.length cl):=⟨hgr.cell 0,hgr.cell 1,hgr.cell 2,hgr.cell 3,hgr.cell 4,hgr.cell 5⟩
       have HGd:=Jh hgr
       clear hgr hzr
       go_wp2_with fail
       refine HRt.out.mono ?_
       rintro e2 w8 ⟨rfl,hb8⟩
       have HM8:=Jh (HMw.out.below hb8)
       have hg8:=HGd.out.below hb8 HGd.out.lt
       have hz8:=HZd.out.below hb8 HZd.out.lt
       have hb88:=HBr.out.trans (hb8.mono HBr.out.size)
       clear hb8 HRt q0 q1 q2 q3 q4 q5
       have HZ8:=Jh hz8
       obtain ⟨z0,z1,z2,z3,z4,z5⟩:w8.cell? ⟨w.heap.size,0,none⟩=some (.int .i64 0)∧w8.cell? ⟨w.heap.size,1,none⟩=some (.int .i64 0)∧w8.cell? ⟨w.heap.size,2,none⟩=some (.int .i64 0)∧w8.cell? ⟨w.heap.size,3,none⟩=some (.slice none 0 0)∧w8.cell? ⟨w.heap.size,4,none⟩=some (.slice none 0 0)∧w8.cell? ⟨w.heap.size,5,none⟩=some (.slice none 0 0):=⟨hz8.cell 0,hz8.cell 1,hz8.cell 2,hz8.cell 3,hz8.cell 4,hz8.cell 5⟩
       obtain ⟨f0,f1,f2,f3,f4,f5⟩:w8.frozen? ⟨w.heap.size,0,none⟩=false∧w8.frozen? ⟨w.heap.size,1,none⟩=false∧w8.frozen? ⟨w.heap.size,2,none⟩=false∧w8.frozen? ⟨w.heap.size,3,none⟩=false∧w8.frozen? ⟨w.heap.size,4,none⟩=false∧w8.frozen? ⟨w.heap.size,5,none⟩=false:=⟨hz8.frozen 0,hz8.frozen 1,hz8.frozen 2,hz8.frozen 3,hz8.frozen 4,hz8.frozen 5⟩
       cases hrt:rightB (⟨g,cu,fe,xs,ms,ls⟩:Md)
       ·have HF:Hid (RetAp w (decB s).1 (decB s).2 (.returned (.tuple #[.agg #[.int .i64 0,.int .i64 0,.int .i64 0,.slice none 0 0,.slice none 0 0,.slice none 0 0],.int .i64 4])) (set6 w8 w.heap.size (.int .i64 0) (.int .i64 0) (.int .i64 0) (.slice none 0 0) (.slice none 0 0) (.slice none 0 0))):=Jh (by
         rw [HDec.out]
         unfold decM
         rw [if_neg (fun hh=>by rw [hrt] at hh;cases hh.2.2)]
         exact ⟨nilP,rfl,Mow.zero _ _,set6_below hb88 (Nat.le_refl _) _ _ _ _ _ _⟩)
        clear hz8 hb88 hg8 hrt hall HDec HM8
        go_wp2
        refine bodyPost_ret (results_mf rfl _ _ w.heap.size 53 #[.int .i64 0,.int .i64 0,.int .i64 0,.slice none 0 0,.slice none 0 0,.slice none 0 0] _ _ rfl rfl (set6_blk HZ8.out _ _ _ _ _ _) Tryz.underlying53 rfl (by kernel_rfl)) rfl ?_
        exact HF.out
       ·have HF:Hid (RetAp w (decB s).1 (decB s).2 (.returned (.tuple #[.agg #[.int .i64 (g:Int),.int .i64 (cu:Int),.int .i64 (fe:Int),.slice Ax xs.length cx,.slice Am ms.length cm,.slice Al ls.length cl],.int .i64 0])) (set6 w8 w.heap.size (.int .i64 (g:Int)) (.int .i64 (cu:Int)) (.int .i64 (fe:Int)) (.slice Ax xs.length cx) (.slice Am ms.length cm) (.slice Al ls.length cl))):=Jh (by
         rw [HDec.out]
         unfold decM
         rw [if_pos ⟨Hh.out,Hcd.out,hrt⟩]
         exact ⟨⟨Ax,cx,Am,cm,Al,cl⟩,rfl,(HM8.out.set6 (Nat.lt_succ_self _) _ _ _ _ _ _).mono (Nat.le_succ _),set6_below hb88 (Nat.le_refl _) _ _ _ _ _ _⟩)
        obtain ⟨q0,q1,q2,q3,q4,q5⟩:w8.cell? ⟨gm,0,none⟩=some (.int .i64 (g:Int))∧w8.cell? ⟨gm,1,none⟩=some (.int .i64 (cu:Int))∧w8.cell? ⟨gm,2,none⟩=some (.int .i64 (fe:Int))∧w8.cell? ⟨gm,3,none⟩=some (.slice Ax xs.length cx)∧w8.cell? ⟨gm,4,none⟩=some (.slice Am ms.length cm)∧w8.cell? ⟨gm,5,none⟩=some (.slice Al ls.length cl):=⟨hg8.cell 0,hg8.cell 1,hg8.cell 2,hg8.cell 3,hg8.cell 4,hg8.cell 5⟩
        clear hz8 hb88 hg8 hrt hall HDec HM8
        go_wp2
        refine bodyPost_ret (results_mf rfl _ _ w.heap.size 53 #[.int .i64 (g:Int),.int .i64 (cu:Int),.int .i64 (fe:Int),.slice Ax xs.length cx,.slice Am ms.length cm,.slice Al ls.length cl] _ _ rfl rfl (set6_blk HZ8.out _ _ _ _ _ _) Tryz.underlying53 rfl (by kernel_rfl)) rfl ?_
        exact HF.out
      ·have hq0:((ce:Int) != 0)=true:=net (by omega)
       have HF:Hid (RetAp w (decB s).1 (decB s).2 (.returned (.tuple #[.agg #[.int .i64 0,.int .i64 0,.int .i64 0,.slice none 0 0,.slice none 0 0,.slice none 0 0],.int .i64 4])) (set6 wd w.heap.size (.int .i64 0) (.int .i64 0) (.int .i64 0) (.slice none 0 0) (.slice none 0 0) (.slice none 0 0))):=Jh (by
        rw [HDec.out]
        unfold decM
        rw [if_neg (fun hh=>h0 (Hcd.out.symm.trans hh.2.1))]
        exact ⟨nilP,rfl,Mow.zero _ _,set6_below HBr.out (Nat.le_refl _) _ _ _ _ _ _⟩)
       obtain ⟨z0,z1,z2,z3,z4,z5⟩:wd.cell? ⟨w.heap.size,0,none⟩=some (.int .i64 0)∧wd.cell? ⟨w.heap.size,1,none⟩=some (.int .i64 0)∧wd.cell? ⟨w.heap.size,2,none⟩=some (.int .i64 0)∧wd.cell? ⟨w.heap.size,3,none⟩=some (.slice none 0 0)∧wd.cell? ⟨w.heap.size,4,none⟩=some (.slice none 0 0)∧wd.cell? ⟨w.heap.size,5,none⟩=some (.slice none 0 0):=⟨hzr.cell 0,hzr.cell 1,hzr.cell 2,hzr.cell 3,hzr.cell 4,hzr.cell 5⟩
       obtain ⟨f0,f1,f2,f3,f4,f5⟩:wd.frozen? ⟨w.heap.size,0,none⟩=false∧wd.frozen? ⟨w.heap.size,1,none⟩=false∧wd.frozen? ⟨w.heap.size,2,none⟩=false∧wd.frozen? ⟨w.heap.size,3,none⟩=false∧wd.frozen? ⟨w.heap.size,4,none⟩=false∧wd.frozen? ⟨w.heap.size,5,none⟩=false:=⟨hzr.frozen 0,hzr.frozen 1,hzr.frozen 2,hzr.frozen 3,hzr.frozen 4,hzr.frozen 5⟩
       clear hzr hgr h0 hall HDec HMw
       go_wp2
       refine bodyPost_ret (results_mf rfl _ _ w.heap.size 53 #[.int .i64 0,.int .i64 0,.int .i64 0,.slice none 0 0,.slice none 0 0,.slice none 0 0] _ _ rfl rfl (set6_blk HZd.out _ _ _ _ _ _) Tryz.underlying53 rfl (by kernel_rfl)) rfl ?_
       exact HF.out
  ·have hb5:(hd == [77,65,78,73,1])=false:=beq_eq_false_iff_ne.2 hh
   have HF:Hid (RetAp w (decB s).1 (decB s).2 (.returned (.tuple #[.agg #[.int .i64 0,.int .i64 0,.int .i64 0,.slice none 0 0,.slice none 0 0,.slice none 0 0],.int .i64 4])) (set6 w3 w.heap.size (.int .i64 0) (.int .i64 0) (.int .i64 0) (.slice none 0 0) (.slice none 0 0) (.slice none 0 0))):=Jh (by
    rw [HDB.out,decT_bad Hq.out hh]
    exact ⟨nilP,rfl,Mow.zero _ _,set6_below hbw3 (Nat.le_refl _) _ _ _ _ _ _⟩)
   obtain ⟨z0,z1,z2,z3,z4,z5⟩:w3.cell? ⟨w.heap.size,0,none⟩=some (.int .i64 0)∧w3.cell? ⟨w.heap.size,1,none⟩=some (.int .i64 0)∧w3.cell? ⟨w.heap.size,2,none⟩=some (.int .i64 0)∧w3.cell? ⟨w.heap.size,3,none⟩=some (.slice none 0 0)∧w3.cell? ⟨w.heap.size,4,none⟩=some (.slice none 0 0)∧w3.cell? ⟨w.heap.size,5,none⟩=some (.slice none 0 0):=⟨hz3.cell 0,hz3.cell 1,hz3.cell 2,hz3.cell 3,hz3.cell 4,hz3.cell 5⟩
   obtain ⟨f0,f1,f2,f3,f4,f5⟩:w3.frozen? ⟨w.heap.size,0,none⟩=false∧w3.frozen? ⟨w.heap.size,1,none⟩=false∧w3.frozen? ⟨w.heap.size,2,none⟩=false∧w3.frozen? ⟨w.heap.size,3,none⟩=false∧w3.frozen? ⟨w.heap.size,4,none⟩=false∧w3.frozen? ⟨w.heap.size,5,none⟩=false:=⟨hz3.frozen 0,hz3.frozen 1,hz3.frozen 2,hz3.frozen 3,hz3.frozen 4,hz3.frozen 5⟩
   clear hz3 hbw3 hh HC3 Hq HDB
   go_wp2
   refine bodyPost_ret (results_mf rfl _ _ w.heap.size 53 #[.int .i64 0,.int .i64 0,.int .i64 0,.slice none 0 0,.slice none 0 0,.slice none 0 0] _ _ rfl rfl (set6_blk HZ3.out _ _ _ _ _ _) Tryz.underlying53 rfl (by kernel_rfl)) rfl ?_
   exact HF.out
 ·have hq:((eo:Int) != 0)=true:=net (by omega)
  have HF:Hid (RetAp w (decB s).1 (decB s).2 (.returned (.tuple #[.agg #[.int .i64 0,.int .i64 0,.int .i64 0,.slice none 0 0,.slice none 0 0,.slice none 0 0],.int .i64 (eo:Int)])) (set6 w1 w.heap.size (.int .i64 0) (.int .i64 0) (.int .i64 0) (.slice none 0 0) (.slice none 0 0) (.slice none 0 0))):=Jh (by
   rw [decB_err Hop.out he]
   exact ⟨nilP,rfl,Mow.zero _ _,set6_below hbw1 (Nat.le_refl _) _ _ _ _ _ _⟩)
  have HZ1:=Jh hz1
  clear hz1 hbw1 he Hop
  go_wp2
  refine bodyPost_ret (results_mf rfl _ _ w.heap.size 53 #[.int .i64 0,.int .i64 0,.int .i64 0,.slice none 0 0,.slice none 0 0,.slice none 0 0] _ _ rfl rfl (set6_blk HZ1.out _ _ _ _ _ _) Tryz.underlying53 rfl (by kernel_rfl)) rfl ?_
  exact HF.out
end Go.Proofs.YtibnehaibgbliaaGreat.Mf
