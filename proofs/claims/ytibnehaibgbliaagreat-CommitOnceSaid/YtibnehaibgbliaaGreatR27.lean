/- Laws for the row's walk. -/
import Derived.Test.YtibnehaibgbliaaGreatR26
set_option linter.unusedVariables false
set_option linter.unusedSimpArgs false
open Go.Lib renaming hid → Jh
open List renaming setIfInBounds_toArray → Jd, set_cons_zero → Je, set_cons_succ → Jf, getElem_cons_zero → Jg, getElem_cons_succ → Ji, getElem_toArray → Jk
namespace Go.Proofs.YtibnehaibgbliaaGreat.Mf
open Go.RowKit Go.Proofs.YtibnehaibgbliaaGreat
set_option maxRecDepth 100000 in
set_option maxHeartbeats 12800000 in
theorem dec_calls (w:World) {B n c:Nat} {A:Option Addr} {s:List UInt8} (h:Bytes w B A n s) (hB:B≤w.heap.size) (hnc:n≤c) (hn:n≤1000000) (hm:Sh w) :
  Calls Tryz.prog 33 #[.slice A n c] w (RetAp w (decB s).1 (decB s).2):=by
 have hb0:=(Below.refl w.heap.size w).alloc (Nat.le_refl _) (.cells #[.int .i64 0,.int .i64 0,.int .i64 0,.slice none 0 0,.slice none 0 0,.slice none 0 0] 53)
 have HOp:=Jh (Cr.open_calls (w.alloc (.cells #[.int .i64 0,.int .i64 0,.int .i64 0,.slice none 0 0,.slice none 0 0,.slice none 0 0] 53)) (c:=c) (h.below (hb0.mono hB)) (Nat.le_trans hB (by simp)) hnc (by omega))
 have HZ:=Jh (Blk.new w 53 #[.int .i64 0,.int .i64 0,.int .i64 0,.slice none 0 0,.slice none 0 0,.slice none 0 0])
 have HSh:=Jh fun W (hW:Below w.heap.size w W)=>hm.below hW hm.lt
 have hsl:=h.len
 rcases hop:Cr.copen s with ⟨t,eo⟩
 have htl:=copen_le hop
 rw [hop] at HOp
 have Hop:=Jh hop
 clear h hop hm
 go_enter Tryz.func33,Tryz.ntmps33
 go_wp2_with fail
 refine HOp.out.mono ?_
 rintro e w1 hret
 obtain ⟨A1,c1,rfl,hc1,hm1,hby1,hb1,-⟩:=hret.opened
 have hz1:=HZ.out.below hb1 (by simp)
 have hbw1:Below w.heap.size w w1:=hb0.trans (hb1.mono (by simp))
 have hsw1:w.heap.size<w1.heap.size:=by have:=hb1.size;simp at this;omega
 clear hret HOp HZ hb0 hb1
 dsimp only at hc1 hby1 ⊢
 obtain ⟨z0,z1,z2,z3,z4,z5⟩:w1.cell? ⟨w.heap.size,0,none⟩=some (.int .i64 0)∧w1.cell? ⟨w.heap.size,1,none⟩=some (.int .i64 0)∧w1.cell? ⟨w.heap.size,2,none⟩=some (.int .i64 0)∧w1.cell? ⟨w.heap.size,3,none⟩=some (.slice none 0 0)∧w1.cell? ⟨w.heap.size,4,none⟩=some (.slice none 0 0)∧w1.cell? ⟨w.heap.size,5,none⟩=some (.slice none 0 0):=⟨hz1.cell 0,hz1.cell 1,hz1.cell 2,hz1.cell 3,hz1.cell 4,hz1.cell 5⟩
 obtain ⟨f0,f1,f2,f3,f4,f5⟩:w1.frozen? ⟨w.heap.size,0,none⟩=false∧w1.frozen? ⟨w.heap.size,1,none⟩=false∧w1.frozen? ⟨w.heap.size,2,none⟩=false∧w1.frozen? ⟨w.heap.size,3,none⟩=false∧w1.frozen? ⟨w.heap.size,4,none⟩=false∧w1.frozen? ⟨w.heap.size,5,none⟩=false:=⟨hz1.frozen 0,hz1.frozen 1,hz1.frozen 2,hz1.frozen 3,hz1.frozen 4,hz1.frozen 5⟩
 by_cases he:eo=0
 ·subst he
  simp only [Int.natCast_zero]
  have HDB:=Jh (decB_ok Hop.out)
  have HZ1:=Jh hz1
  have HBW1:=Jh hbw1
  have HNew:=Jh (Nu.new_calls w1 (c:=c1) hby1 (Nat.le_refl _) (by omega))
  clear z0 z1 z2 z3 z4 z5 f0 f1 f2 f3 f4 f5 hz1 hbw1 Hop hby1
  go_wp2_with fail
  refine HNew.out.mono ?_
  rintro e2 w2 ⟨gc,rfl,hcu2,hb2,hgc⟩
  have hsl2:t.length≤1000000:=by omega
  have hgc2:gc<w2.heap.size:=hcu2.lt
  have HCv:Hid (Cv (w2.alloc (.cells #[.pointer (some ⟨gc,0,none⟩)] 131)) w2.heap.size gc t 0 0):=Jh ⟨hcu2.below ((Below.refl _ _).alloc (Nat.le_refl _) _),Blk.new _ _ _,hgc2⟩
  have HBW2:Hid (Below w.heap.size w (w2.alloc (.cells #[.pointer (some ⟨gc,0,none⟩)] 131))):=Jh ((HBW1.out.trans (hb2.mono (by omega))).alloc (by have:=hb2.size;omega) _)
  have HZ2:=Jh ((HZ1.out.below hb2 (by omega)).alloc (.cells #[.pointer (some ⟨gc,0,none⟩)] 131))
  clear HNew hcu2 hb2 HZ1 HBW1
  go_wp2_with fail
  generalize hgb0:w2.heap.size=gb at *
  have hszb:(w2.alloc (.cells #[.pointer (some ⟨gc,0,none⟩)] 131)).heap.size=gb+1:=by simp [hgb0]
  have HFb:=Jh (Fr2.refl gc gc (w2.alloc (.cells #[.pointer (some ⟨gc,0,none⟩)] 131)))
  generalize w2.alloc (.cells #[.pointer (some ⟨gc,0,none⟩)] 131)=w3 at *
  refine (Nu.curBytes_calls w3 HCv.out.cur (by omega) 5 (by decide)).mono ?_
  rintro en1 w4 ⟨A3,c3,rfl,hc3,hm3,hown3,hcur,honly⟩
  generalize hq:Nu.curBytes t 0 0 5=q at *
  obtain ⟨hd,k,e⟩:=q
  have Hq:=Jh hq
  dsimp only at hc3 hown3 hcur ⊢
  have hconv:=(own_bytes hown3).conv Tryz.prog c3 33 5 9 Tryz.underlying33 Tryz.underlying5 Tryz.underlying9
  have HC4:=Jh (HCv.out.call hcur honly)
  have HF4:=Jh (HFb.out.trans (Fr2.of_only honly))
  have hlt4:=(own_bytes hown3).len
  clear hcur honly HCv hq HFb hown3
  generalize hok:(hd == [77,65,78,73,1])=ok at *
  have Hok:Hid (ok=decide (hd=head5)):=Jh (by
   rw [← hok]
   by_cases hh:hd=head5
   ·rw [decide_eq_true hh,hh];rfl
   ·rw [decide_eq_false hh];exact beq_eq_false_iff_ne.2 hh)
  go_wp2_with fail
  generalize (hd == [77,65,78,73,1])=ok2 at *
  subst hok
  clear hconv
  refine (n_calls w4 HC4.out.box HC4.out.cur (by omega)).mono ?_
  rintro en1 x1 ⟨rfl,hcur,honly⟩
  generalize hq:Nu.curNum t k e (1099511627775)=q at *
  obtain ⟨g,k1,e1⟩:=q
  have Hq1:=Jh hq
  dsimp only at hcur ⊢
  have HC5:=Jh (HC4.out.call hcur honly)
  have HF5:=Jh (HF4.out.trans (Fr2.of_only honly))
  clear hcur honly HC4 hq
  clear HF4
  go_wp2_with fail
  refine (n_calls x1 HC5.out.box HC5.out.cur (by omega)).mono ?_
  rintro en1 x2 ⟨rfl,hcur,honly⟩
  generalize hq:Nu.curNum t k1 e1 (1099511627775)=q at *
  obtain ⟨cu,k2,e2⟩:=q
  have Hq2:=Jh hq
  dsimp only at hcur ⊢
  have HC6:=Jh (HC5.out.call hcur honly)
  have HF6:=Jh (HF5.out.trans (Fr2.of_only honly))
  clear hcur honly HC5 hq
  clear HF5
  go_wp2_with fail
  refine (n_calls x2 HC6.out.box HC6.out.cur (by omega)).mono ?_
  rintro en1 x3 ⟨rfl,hcur,honly⟩
  generalize hq:Nu.curNum t k2 e2 (1099511627775)=q at *
  obtain ⟨fe,k3,e3⟩:=q
  have Hq3:=Jh hq
  dsimp only at hcur ⊢
  have HC7:=Jh (HC6.out.call hcur honly)
  have HF7:=Jh (HF6.out.trans (Fr2.of_only honly))
  clear hcur honly HC6 hq
  clear HF6
  have hcb:x3.cell? ⟨gb,0,none⟩=some (.pointer (some ⟨gc,0,none⟩)):=HC7.out.box.cell 0
  have hgbl:gb<x3.heap.size:=HC7.out.box.lt
  have hgcb:gc<gb:=HC7.out.ne
  go_wp2_with fail
  clear hcb
  have HC8:=Jh (HC7.out.belowS ((Below.refl _ _).alloc (Nat.le_refl _) (.cells #[.int .i64 (g:Int),.int .i64 (cu:Int),.int .i64 (fe:Int),.slice none 0 0,.slice none 0 0,.slice none 0 0] 53)))
  have HB8:=Jh (Blk.new x3 53 #[.int .i64 (g:Int),.int .i64 (cu:Int),.int .i64 (fe:Int),.slice none 0 0,.slice none 0 0,.slice none 0 0])
  have HF8:=Jh ((Fr2.refl gc x3.heap.size x3).alloc (.cells #[.int .i64 (g:Int),.int .i64 (cu:Int),.int .i64 (fe:Int),.slice none 0 0,.slice none 0 0,.slice none 0 0] 53))
  generalize x3.alloc (.cells #[.int .i64 (g:Int),.int .i64 (cu:Int),.int .i64 (fe:Int),.slice none 0 0,.slice none 0 0,.slice none 0 0] 53)=v3 at *
  generalize hgm0:x3.heap.size=gm at *
  have hne:gm≠gc:=by omega
  clear HC7
  refine (Nu.curNum_calls v3 HC8.out.cur (by omega) (256) (by decide)).mono ?_
  rintro en1 x4 ⟨rfl,hcur,honly⟩
  generalize hq:Nu.curNum t k3 e3 (256)=q at *
  obtain ⟨nE,k4,e4⟩:=q
  have Hq4:=Jh hq
  dsimp only at hcur ⊢
  have HC9:=Jh (HC8.out.call hcur honly)
  have hle:=num_le hq (by omega)
  have HB9:=Jh (honly.blk HB8.out hne)
  have HF9:=Jh (HF8.out.trans (Fr2.of_only honly))
  clear hcur honly HC8 hq
  clear HB8 HF8
  go_wp2
  have HOs:Hid (x4.ownsRow (gm+1) 85 9 (.slice none 0 0) 0 (([]:List En).flatMap En.cs)):=Jh (World.ownsRow_nil _ _ _ _)
  go_loopw [36] (fun i wr=>∃ (j:Nat) (xs:List En) (kr er:Nat) (Ax:Option Addr) (cx:Nat),j≤nE∧i=.int .i64 (j:Int)∧Hid (rdL (rdE t) j k4 e4=(xs,kr,er))∧Hid (Cv wr gb gc t kr er)∧Hid (Blk wr gm 53 #[.int .i64 (g:Int),.int .i64 (cu:Int),.int .i64 (fe:Int),.slice Ax j cx,.slice none 0 0,.slice none 0 0])∧Hid (Fr2 gc gm x3 wr)∧Hid (wr.ownsRow (gm+1) 85 9 (.slice Ax j cx) j (xs.flatMap En.cs))) (fun i _=>nE-(intOf i).toNat)
  case atStart=>exact ⟨0,[],k4,e4,none,0,Nat.zero_le _,rfl,Jh rfl,HC9,HB9,HF9,HOs⟩
  case round =>
   clear HC9 HB9 HF9 HOs
   obtain ⟨j,xs,kr,er,Ax,cx,hj,rfl,HQx,HCr,HBr,HFr,HOr⟩:=hrel
   by_cases hlt:j<nE
   ·have hgml:gm<wr.heap.size:=HBr.out.lt
    have HCd:Hid (Cv wr.drew gb gc t kr er):=Jh (HCr.out.belowS (below_drewN_ (Below.refl _ _) 1))
    go_wp2_with fail
    obtain ⟨⟨a1,l1,d1⟩,hq⟩:∃ q,Nu.curText t kr er 40=q:=⟨_,rfl⟩
    have Hq10:=Jh hq
    clear hq
    obtain ⟨⟨a2,l2,d2⟩,hq⟩:∃ q,Nu.curNum t l1 d1 1099511627775=q:=⟨_,rfl⟩
    have Hq11:=Jh hq
    clear hq
    obtain ⟨⟨a3,l3,d3⟩,hq⟩:∃ q,Nu.curText t l2 d2 1024=q:=⟨_,rfl⟩
    have Hq12:=Jh hq
    clear hq
    obtain ⟨⟨a4,l4,d4⟩,hq⟩:∃ q,Nu.curNum t l3 d3 1099511627775=q:=⟨_,rfl⟩
    have Hq13:=Jh hq
    clear hq
    obtain ⟨⟨a5,l5,d5⟩,hq⟩:∃ q,Nu.curNum t l4 d4 1099511627775=q:=⟨_,rfl⟩
    have Hq14:=Jh hq
    clear hq
    obtain ⟨⟨a6,l6,d6⟩,hq⟩:∃ q,Nu.curNum t l5 d5 1099511627775=q:=⟨_,rfl⟩
    have Hq15:=Jh hq
    clear hq
    obtain ⟨⟨a7,l7,d7⟩,hq⟩:∃ q,Nu.curNum t l6 d6 1099511627775=q:=⟨_,rfl⟩
    have Hq16:=Jh hq
    clear hq
    obtain ⟨⟨a8,l8,d8⟩,hq⟩:∃ q,Nu.curNum t l7 d7 4294967295=q:=⟨_,rfl⟩
    have Hq17:=Jh hq
    clear hq
    obtain ⟨⟨a9,l9,d9⟩,hq⟩:∃ q,Nu.curNum t l8 d8 1099511627775=q:=⟨_,rfl⟩
    have Hq18:=Jh hq
    clear hq
    have hw32:IntKind.u32.wrap (a8:Int)=(a8:Int):=by have:=num_le Hq17.out (by omega);rw [IntKind.wrap_u32];omega
    have hentT:∀ args W,(callFunc 70 args).run Tryz.prog W=.ok (.enter 70 args) W:=enters_of Tryz.func70 (by kernel_rfl) rfl
    have hentM:∀ args W,(callFunc 68 args).run Tryz.prog W=.ok (.enter 68 args) W:=enters_of Tryz.func68 (by kernel_rfl) rfl
    have hentN:∀ args W,(callFunc 67 args).run Tryz.prog W=.ok (.enter 67 args) W:=enters_of Tryz.func67 (by kernel_rfl) rfl
    refine wp_region_steps (by kernel_rfl) (by kernel_rfl) (DeS (fun i=>(#[.pointer (some ⟨gc,0,none⟩),.string ⟨a1.toArray⟩,.func (.func 67) #[] #[.pointer (some ⟨gb,0,none⟩)],.int .i64 (a2:Int),.pointer (some ⟨gc,0,none⟩),.string ⟨a3.toArray⟩,.func (.func 67) #[] #[.pointer (some ⟨gb,0,none⟩)],.int .i64 (a4:Int),.func (.func 67) #[] #[.pointer (some ⟨gb,0,none⟩)],.int .i64 (a5:Int),.func (.func 67) #[] #[.pointer (some ⟨gb,0,none⟩)],.int .i64 (a6:Int),.func (.func 67) #[] #[.pointer (some ⟨gb,0,none⟩)],.int .i64 (a7:Int),.pointer (some ⟨gc,0,none⟩),.int .i64 (a8:Int),.int .u32 (a8:Int),.func (.func 67) #[] #[.pointer (some ⟨gb,0,none⟩)],.int .i64 (a9:Int),.agg #[.string ⟨a1.toArray⟩,.int .i64 (a2:Int),.string ⟨a3.toArray⟩,.int .i64 (a4:Int),.int .i64 (a5:Int),.int .i64 (a6:Int),.int .i64 (a7:Int),.int .u32 (a8:Int),.int .i64 (a9:Int)]]:Array Value).getD i undef) (fun r=>(#[(kr,er),(l1,d1),(l2,d2),(l3,d3),(l4,d4),(l5,d5),(l6,d6),(l7,d7),(l8,d8),(l9,d9)]:Array (Nat × Nat)).getD r (0,0)) gb gc t wr #[.string ⟨a1.toArray⟩,.int .i64 (a2:Int),.string ⟨a3.toArray⟩,.int .i64 (a4:Int),.int .i64 (a5:Int),.int .i64 (a6:Int),.int .i64 (a7:Int),.int .u32 (a8:Int),.int .i64 (a9:Int)]) ⟨fun i hi _=>(by cases hi),⟨0,by omega,fun r hr=>⟨fun h=>(by cases h),fun h=>(by omega)⟩,HCd.out⟩,(Only.refl gc wr).drew,fun h=>(by cases h),fun h=>(by cases h)⟩ ?_ [some 38,some 39,some 40,some 41,some 42,some 43,some 44,some 45,some 46,some 47,some 48,some 49,some 50,some 51,some 52,some 53,some 54,some 55,some 56,some 57,some 10,none] (by kernel_rfl) ?_
    ·intro i o ho cc vs W b hS hci hbd hev hout
     rcases i with _|_|_|_|_|_|_|_|_|_|_|_|_|_|_|_|_|_|_|_|_|_|i
     ·cases ho
      obtain ⟨_,_,_,hcv⟩:=hS.cv
      have yc:W.cell? ⟨gb,0,none⟩=some (.pointer (some ⟨gc,0,none⟩)):=hcv.box.cell 0
      have e:=(hout 6 (by kernel_rfl)).trans (rfl:_=Value.pointer (some ⟨gb,0,none⟩))
      exact wp_of_run _ (Opr.run_ld W (.tmp 6) rfl e (by simp [go_sem,yc])) ⟨_,rfl,hS.step 0 (by omega) rfl⟩
     ·cases ho
      have hcv:Cv W gb gc t kr er:=hS.at_ 0 (by omega) hci (fun h=>absurd h (by omega))
      refine wp_call2 (x:=.tmp 38) (y:=.const (.int .i64 40)) rfl ((hev 0 38 (hbd 0 (by kernel_rfl)) rfl).trans (hS.vals 0 (hbd 0 (by kernel_rfl)) (by omega))) rfl (hentT _ _) ((Nu.curText_calls W hcv.cur (by omega) 40 (by decide)).mono ?_)
      rintro e w' ⟨rfl,hcu,ho⟩
      rw [show Nu.curText t kr er 40=(a1,l1,d1) from Hq10.out] at hcu ⊢
      exact ⟨_,rfl,_,rfl,hS.call 0 (by omega) hci (fun h=>absurd h (by omega)) hcu ho⟩
     ·cases ho
      have e:=(hout 7 (by kernel_rfl)).trans (rfl:_=Value.func (.func 67) #[] #[.pointer (some ⟨gb,0,none⟩)])
      exact wp_move (.tmp 7) rfl e ⟨_,rfl,hS.step 2 (by omega) rfl⟩
     ·cases ho
      have hcv:Cv W gb gc t l1 d1:=hS.at_ 1 (by omega) hci (fun _=>hbd 1 (by kernel_rfl))
      refine wp_call0v (tv:=.tmp 40) rfl ((hev 2 40 (hbd 2 (by kernel_rfl)) rfl).trans (hS.vals 2 (hbd 2 (by kernel_rfl)) (by omega))) (hentN _ _) ((n_calls W hcv.box hcv.cur (by omega)).mono ?_)
      rintro e w' ⟨rfl,hcu,ho⟩
      rw [show Nu.curNum t l1 d1 1099511627775=(a2,l2,d2) from Hq11.out] at hcu ⊢
      exact ⟨_,rfl,_,rfl,hS.call 1 (by omega) hci (fun _=>hbd 1 (by kernel_rfl)) hcu ho⟩
     ·cases ho
      obtain ⟨_,_,_,hcv⟩:=hS.cv
      have yc:W.cell? ⟨gb,0,none⟩=some (.pointer (some ⟨gc,0,none⟩)):=hcv.box.cell 0
      have e:=(hout 6 (by kernel_rfl)).trans (rfl:_=Value.pointer (some ⟨gb,0,none⟩))
      exact wp_of_run _ (Opr.run_ld W (.tmp 6) rfl e (by simp [go_sem,yc])) ⟨_,rfl,hS.step 4 (by omega) rfl⟩
     ·cases ho
      have hcv:Cv W gb gc t l2 d2:=hS.at_ 2 (by omega) hci (fun _=>hbd 3 (by kernel_rfl))
      refine wp_call2 (x:=.tmp 42) (y:=.const (.int .i64 1024)) rfl ((hev 4 42 (hbd 4 (by kernel_rfl)) rfl).trans (hS.vals 4 (hbd 4 (by kernel_rfl)) (by omega))) rfl (hentT _ _) ((Nu.curText_calls W hcv.cur (by omega) 1024 (by decide)).mono ?_)
      rintro e w' ⟨rfl,hcu,ho⟩
      rw [show Nu.curText t l2 d2 1024=(a3,l3,d3) from Hq12.out] at hcu ⊢
      exact ⟨_,rfl,_,rfl,hS.call 2 (by omega) hci (fun _=>hbd 3 (by kernel_rfl)) hcu ho⟩
     ·cases ho
      have e:=(hout 7 (by kernel_rfl)).trans (rfl:_=Value.func (.func 67) #[] #[.pointer (some ⟨gb,0,none⟩)])
      exact wp_move (.tmp 7) rfl e ⟨_,rfl,hS.step 6 (by omega) rfl⟩
     ·cases ho
      have hcv:Cv W gb gc t l3 d3:=hS.at_ 3 (by omega) hci (fun _=>hbd 5 (by kernel_rfl))
      refine wp_call0v (tv:=.tmp 44) rfl ((hev 6 44 (hbd 6 (by kernel_rfl)) rfl).trans (hS.vals 6 (hbd 6 (by kernel_rfl)) (by omega))) (hentN _ _) ((n_calls W hcv.box hcv.cur (by omega)).mono ?_)
      rintro e w' ⟨rfl,hcu,ho⟩
      rw [show Nu.curNum t l3 d3 1099511627775=(a4,l4,d4) from Hq13.out] at hcu ⊢
      exact ⟨_,rfl,_,rfl,hS.call 3 (by omega) hci (fun _=>hbd 5 (by kernel_rfl)) hcu ho⟩
     ·cases ho
      have e:=(hout 7 (by kernel_rfl)).trans (rfl:_=Value.func (.func 67) #[] #[.pointer (some ⟨gb,0,none⟩)])
      exact wp_move (.tmp 7) rfl e ⟨_,rfl,hS.step 8 (by omega) rfl⟩
     ·cases ho
      have hcv:Cv W gb gc t l4 d4:=hS.at_ 4 (by omega) hci (fun _=>hbd 7 (by kernel_rfl))
      refine wp_call0v (tv:=.tmp 46) rfl ((hev 8 46 (hbd 8 (by kernel_rfl)) rfl).trans (hS.vals 8 (hbd 8 (by kernel_rfl)) (by omega))) (hentN _ _) ((n_calls W hcv.box hcv.cur (by omega)).mono ?_)
      rintro e w' ⟨rfl,hcu,ho⟩
      rw [show Nu.curNum t l4 d4 1099511627775=(a5,l5,d5) from Hq14.out] at hcu ⊢
      exact ⟨_,rfl,_,rfl,hS.call 4 (by omega) hci (fun _=>hbd 7 (by kernel_rfl)) hcu ho⟩
     ·cases ho
      have e:=(hout 7 (by kernel_rfl)).trans (rfl:_=Value.func (.func 67) #[] #[.pointer (some ⟨gb,0,none⟩)])
      exact wp_move (.tmp 7) rfl e ⟨_,rfl,hS.step 10 (by omega) rfl⟩
     ·cases ho
      have hcv:Cv W gb gc t l5 d5:=hS.at_ 5 (by omega) hci (fun _=>hbd 9 (by kernel_rfl))
      refine wp_call0v (tv:=.tmp 48) rfl ((hev 10 48 (hbd 10 (by kernel_rfl)) rfl).trans (hS.vals 10 (hbd 10 (by kernel_rfl)) (by omega))) (hentN _ _) ((n_calls W hcv.box hcv.cur (by omega)).mono ?_)
      rintro e w' ⟨rfl,hcu,ho⟩
      rw [show Nu.curNum t l5 d5 1099511627775=(a6,l6,d6) from Hq15.out] at hcu ⊢
      exact ⟨_,rfl,_,rfl,hS.call 5 (by omega) hci (fun _=>hbd 9 (by kernel_rfl)) hcu ho⟩
     ·cases ho
      have e:=(hout 7 (by kernel_rfl)).trans (rfl:_=Value.func (.func 67) #[] #[.pointer (some ⟨gb,0,none⟩)])
      exact wp_move (.tmp 7) rfl e ⟨_,rfl,hS.step 12 (by omega) rfl⟩
     ·cases ho
      have hcv:Cv W gb gc t l6 d6:=hS.at_ 6 (by omega) hci (fun _=>hbd 11 (by kernel_rfl))
      refine wp_call0v (tv:=.tmp 50) rfl ((hev 12 50 (hbd 12 (by kernel_rfl)) rfl).trans (hS.vals 12 (hbd 12 (by kernel_rfl)) (by omega))) (hentN _ _) ((n_calls W hcv.box hcv.cur (by omega)).mono ?_)
      rintro e w' ⟨rfl,hcu,ho⟩
      rw [show Nu.curNum t l6 d6 1099511627775=(a7,l7,d7) from Hq16.out] at hcu ⊢
      exact ⟨_,rfl,_,rfl,hS.call 6 (by omega) hci (fun _=>hbd 11 (by kernel_rfl)) hcu ho⟩
     ·cases ho
      obtain ⟨_,_,_,hcv⟩:=hS.cv
      have yc:W.cell? ⟨gb,0,none⟩=some (.pointer (some ⟨gc,0,none⟩)):=hcv.box.cell 0
      have e:=(hout 6 (by kernel_rfl)).trans (rfl:_=Value.pointer (some ⟨gb,0,none⟩))
      exact wp_of_run _ (Opr.run_ld W (.tmp 6) rfl e (by simp [go_sem,yc])) ⟨_,rfl,hS.step 14 (by omega) rfl⟩
     ·cases ho
      have hcv:Cv W gb gc t l7 d7:=hS.at_ 7 (by omega) hci (fun _=>hbd 13 (by kernel_rfl))
      refine wp_call2 (x:=.tmp 52) (y:=.const (.int .i64 4294967295)) rfl ((hev 14 52 (hbd 14 (by kernel_rfl)) rfl).trans (hS.vals 14 (hbd 14 (by kernel_rfl)) (by omega))) rfl (hentM _ _) ((Nu.curNum_calls W hcv.cur (by omega) 4294967295 (by decide)).mono ?_)
      rintro e w' ⟨rfl,hcu,ho⟩
      rw [show Nu.curNum t l7 d7 4294967295=(a8,l8,d8) from Hq17.out] at hcu ⊢
      exact ⟨_,rfl,_,rfl,hS.call 7 (by omega) hci (fun _=>hbd 13 (by kernel_rfl)) hcu ho⟩
     ·cases ho
      exact wp_of_run _ (run_cv32 W rfl ((hev 15 53 (hbd 15 (by kernel_rfl)) rfl).trans (hS.vals 15 (hbd 15 (by kernel_rfl)) (by omega))) hw32) ⟨_,rfl,hS.step 16 (by omega) rfl⟩
     ·cases ho
      have e:=(hout 7 (by kernel_rfl)).trans (rfl:_=Value.func (.func 67) #[] #[.pointer (some ⟨gb,0,none⟩)])
      exact wp_move (.tmp 7) rfl e ⟨_,rfl,hS.step 17 (by omega) rfl⟩
     ·cases ho
      have hcv:Cv W gb gc t l8 d8:=hS.at_ 8 (by omega) hci (fun _=>hbd 15 (by kernel_rfl))
      refine wp_call0v (tv:=.tmp 55) rfl ((hev 17 55 (hbd 17 (by kernel_rfl)) rfl).trans (hS.vals 17 (hbd 17 (by kernel_rfl)) (by omega))) (hentN _ _) ((n_calls W hcv.box hcv.cur (by omega)).mono ?_)
      rintro e w' ⟨rfl,hcu,ho⟩
      rw [show Nu.curNum t l8 d8 1099511627775=(a9,l9,d9) from Hq18.out] at hcu ⊢
      exact ⟨_,rfl,_,rfl,hS.call 8 (by omega) hci (fun _=>hbd 15 (by kernel_rfl)) hcu ho⟩
     ·cases ho
      exact wp_of_run _ (run_bd9 W rfl ⟨a1.toArray⟩ a2 ⟨a3.toArray⟩ a4 a5 a6 a7 a8 a9 ((hev 1 39 (hbd 1 (by kernel_rfl)) rfl).trans (hS.vals 1 (hbd 1 (by kernel_rfl)) (by omega))) ((hev 3 41 (hbd 3 (by kernel_rfl)) rfl).trans (hS.vals 3 (hbd 3 (by kernel_rfl)) (by omega))) ((hev 5 43 (hbd 5 (by kernel_rfl)) rfl).trans (hS.vals 5 (hbd 5 (by kernel_rfl)) (by omega))) ((hev 7 45 (hbd 7 (by kernel_rfl)) rfl).trans (hS.vals 7 (hbd 7 (by kernel_rfl)) (by omega))) ((hev 9 47 (hbd 9 (by kernel_rfl)) rfl).trans (hS.vals 9 (hbd 9 (by kernel_rfl)) (by omega))) ((hev 11 49 (hbd 11 (by kernel_rfl)) rfl).trans (hS.vals 11 (hbd 11 (by kernel_rfl)) (by omega))) ((hev 13 51 (hbd 13 (by kernel_rfl)) rfl).trans (hS.vals 13 (hbd 13 (by kernel_rfl)) (by omega))) ((hev 16 54 (hbd 16 (by kernel_rfl)) rfl).trans (hS.vals 16 (hbd 16 (by kernel_rfl)) (by omega))) ((hev 18 56 (hbd 18 (by kernel_rfl)) rfl).trans (hS.vals 18 (hbd 18 (by kernel_rfl)) (by omega)))) ⟨_,rfl,hS.step 19 (by omega) rfl⟩
     ·cases ho
      have hc21:cc 21=false:=by
       cases hh:cc 21
       ·rfl
       ·exact absurd (hS.ord hh) (by rw [hci];simp)
      exact wp_of_run _ (run_al9 W rfl) ⟨_,rfl,hS.made hc21⟩
     ·cases ho
      obtain ⟨gx,h20,hgx,hgbx,hbk⟩:=hS.box (hbd 20 (by kernel_rfl))
      simp only [hci] at hbk
      exact wp_of_skip (run_st9 W rfl ⟨a1.toArray⟩ a2 ⟨a3.toArray⟩ a4 a5 a6 a7 a8 a9 ((hev 20 10 (hbd 20 (by kernel_rfl)) rfl).trans h20) ((hev 19 57 (hbd 19 (by kernel_rfl)) rfl).trans (hS.vals 19 (hbd 19 (by kernel_rfl)) (by omega))) hbk) ⟨_,rfl,hS.put hci (hbd 20 (by kernel_rfl)) h20 undef⟩
     ·cases ho
    ·intro cc vs W hS hall
     obtain ⟨gx,h20,hgx,hgbx,hbk,hcv,hoc⟩:=hS.fin (fun j hj=>hall j hj)
     have e0:vs 0=.pointer (some ⟨gc,0,none⟩):=hS.vals 0 (hall 0 (by decide)) (by omega)
     have e1:vs 1=.string ⟨a1.toArray⟩:=hS.vals 1 (hall 1 (by decide)) (by omega)
     have e2:vs 2=.func (.func 67) #[] #[.pointer (some ⟨gb,0,none⟩)]:=hS.vals 2 (hall 2 (by decide)) (by omega)
     have e3:vs 3=.int .i64 (a2:Int):=hS.vals 3 (hall 3 (by decide)) (by omega)
     have e4:vs 4=.pointer (some ⟨gc,0,none⟩):=hS.vals 4 (hall 4 (by decide)) (by omega)
     have e5:vs 5=.string ⟨a3.toArray⟩:=hS.vals 5 (hall 5 (by decide)) (by omega)
     have e6:vs 6=.func (.func 67) #[] #[.pointer (some ⟨gb,0,none⟩)]:=hS.vals 6 (hall 6 (by decide)) (by omega)
     have e7:vs 7=.int .i64 (a4:Int):=hS.vals 7 (hall 7 (by decide)) (by omega)
     have e8:vs 8=.func (.func 67) #[] #[.pointer (some ⟨gb,0,none⟩)]:=hS.vals 8 (hall 8 (by decide)) (by omega)
     have e9:vs 9=.int .i64 (a5:Int):=hS.vals 9 (hall 9 (by decide)) (by omega)
     have e10:vs 10=.func (.func 67) #[] #[.pointer (some ⟨gb,0,none⟩)]:=hS.vals 10 (hall 10 (by decide)) (by omega)
     have e11:vs 11=.int .i64 (a6:Int):=hS.vals 11 (hall 11 (by decide)) (by omega)
     have e12:vs 12=.func (.func 67) #[] #[.pointer (some ⟨gb,0,none⟩)]:=hS.vals 12 (hall 12 (by decide)) (by omega)
     have e13:vs 13=.int .i64 (a7:Int):=hS.vals 13 (hall 13 (by decide)) (by omega)
     have e14:vs 14=.pointer (some ⟨gc,0,none⟩):=hS.vals 14 (hall 14 (by decide)) (by omega)
     have e15:vs 15=.int .i64 (a8:Int):=hS.vals 15 (hall 15 (by decide)) (by omega)
     have e16:vs 16=.int .u32 (a8:Int):=hS.vals 16 (hall 16 (by decide)) (by omega)
     have e17:vs 17=.func (.func 67) #[] #[.pointer (some ⟨gb,0,none⟩)]:=hS.vals 17 (hall 17 (by decide)) (by omega)
     have e18:vs 18=.int .i64 (a9:Int):=hS.vals 18 (hall 18 (by decide)) (by omega)
     have e19:vs 19=.agg #[.string ⟨a1.toArray⟩,.int .i64 (a2:Int),.string ⟨a3.toArray⟩,.int .i64 (a4:Int),.int .i64 (a5:Int),.int .i64 (a6:Int),.int .i64 (a7:Int),.int .u32 (a8:Int),.int .i64 (a9:Int)]:=hS.vals 19 (hall 19 (by decide)) (by omega)
     have hcv:Cv W gb gc t l9 d9:=hcv
     simp only [Go.Proofs.YtibnehaibgbliaaGreat.putL,h20,e0,e1,e2,e3,e4,e5,e6,e7,e8,e9,e10,e11,e12,e13,e14,e15,e16,e17,e18,e19,Exit.then,Act.put,Jd,Je,Jf]
     clear e0 e1 e2 e3 e4 e5 e6 e7 e8 e9 e10 e11 e12 e13 e14 e15 e16 e17 e18 e19 h20 hS hall hentT hentM hentN
     have HBg:=Jh (hoc.blk HBr.out hne)
     have HOy:=Jh (((Fr2.of_only hoc:Fr2 gc gc wr W).own HOr.out (by omega) (by omega)).alloc (.cells #[.string ⟨a1.toArray⟩,.int .i64 (a2:Int),.string ⟨a3.toArray⟩,.int .i64 (a4:Int),.int .i64 (a5:Int),.int .i64 (a6:Int),.int .i64 (a7:Int),.int .u32 (a8:Int),.int .i64 (a9:Int)] 85))
     have HQ2:=Jh (rdL_s HQx.out (show rdE t kr er=(⟨⟨a1.toArray⟩,a2,⟨a3.toArray⟩,a4,a5,a6,a7,a8,a9⟩,l9,d9) by simp only [rdE,most,Hq10.out,Hq11.out,Hq12.out,Hq13.out,Hq14.out,Hq15.out,Hq16.out,Hq17.out,Hq18.out]))
     have HFy:Hid (Fr2 gc gm x3 W):=Jh (HFr.out.trans (Fr2.of_only hoc))
     have HCy:=Jh hcv
     have hszy:gx<W.heap.size:=hbk.lt
     have hgy:W.cell? ⟨gm,0,none⟩=some (.int .i64 (g:Int))∧W.cell? ⟨gm,1,none⟩=some (.int .i64 (cu:Int))∧W.cell? ⟨gm,2,none⟩=some (.int .i64 (fe:Int))∧W.cell? ⟨gm,3,none⟩=some (.slice Ax j cx)∧W.cell? ⟨gm,4,none⟩=some (.slice none 0 0)∧W.cell? ⟨gm,5,none⟩=some (.slice none 0 0):=⟨HBg.out.cell 0,HBg.out.cell 1,HBg.out.cell 2,HBg.out.cell 3,HBg.out.cell 4,HBg.out.cell 5⟩
     obtain ⟨q0,q1,q2,q3,q4,q5⟩:=hgy
     have hxy:W.cell? ⟨gx,0,none⟩=some (.string ⟨a1.toArray⟩)∧W.cell? ⟨gx,1,none⟩=some (.int .i64 (a2:Int))∧W.cell? ⟨gx,2,none⟩=some (.string ⟨a3.toArray⟩)∧W.cell? ⟨gx,3,none⟩=some (.int .i64 (a4:Int))∧W.cell? ⟨gx,4,none⟩=some (.int .i64 (a5:Int))∧W.cell? ⟨gx,5,none⟩=some (.int .i64 (a6:Int))∧W.cell? ⟨gx,6,none⟩=some (.int .i64 (a7:Int))∧W.cell? ⟨gx,7,none⟩=some (.int .u32 (a8:Int))∧W.cell? ⟨gx,8,none⟩=some (.int .i64 (a9:Int)):=⟨hbk.cell 0,hbk.cell 1,hbk.cell 2,hbk.cell 3,hbk.cell 4,hbk.cell 5,hbk.cell 6,hbk.cell 7,hbk.cell 8⟩
     obtain ⟨p0,p1,p2,p3,p4,p5,p6,p7,p8⟩:=hxy
     have hrd:Reads (W.alloc (.cells #[.string ⟨a1.toArray⟩,.int .i64 (a2:Int),.string ⟨a3.toArray⟩,.int .i64 (a4:Int),.int .i64 (a5:Int),.int .i64 (a6:Int),.int .i64 (a7:Int),.int .u32 (a8:Int),.int .i64 (a9:Int)] 85)) (W.heap.size+1) 9 (some ⟨W.heap.size,0,none⟩) 1 (En.cs ⟨⟨a1.toArray⟩,a2,⟨a3.toArray⟩,a4,a5,a6,a7,a8,a9⟩):=Reads.made (n:=1) (size:=9) W _ 85 rfl
     have HBgA:=Jh (HBg.out.alloc (.cells #[.string ⟨a1.toArray⟩,.int .i64 (a2:Int),.string ⟨a3.toArray⟩,.int .i64 (a4:Int),.int .i64 (a5:Int),.int .i64 (a6:Int),.int .i64 (a7:Int),.int .u32 (a8:Int),.int .i64 (a9:Int)] 85))
     have hgmW:gm<W.heap.size:=HBg.out.lt
     clear Hq10 Hq11 Hq12 Hq13 Hq14 Hq15 Hq16 Hq17 Hq18 HBg HOr HQx hbk hcv hoc HCr HBr HFr hw32
     go_wp2_with (at_builtin;go_must (refine wpList_append_sl _ rfl (.tmp 59) (.tmp 61) _ rfl (gm+1) 85 _ 9 88 Tryz.underlying22 Tryz.infoEn rfl (by omega) _ _ _ rfl HOy.out (W.heap.size+1) _ 1 1 _ rfl hrd (ecs1' _) (by unfold maxLen;omega) (by omega) (by simp;omega) ?_))
     intro A5 c5 w5 hc51 hc52 hr5 hbel5 hown5 hgr5 hob5
     have hB5:=HBgA.out.below hbel5 (by omega)
     have q3':w5.cell? ⟨gm,3,none⟩=some (.slice Ax j cx):=hB5.cell 3
     have f3':=hB5.frozen 3
     have HC5:=Jh (((HCy.out.belowS ((Below.refl _ _).alloc (Nat.le_refl _) (.cells #[.string ⟨a1.toArray⟩,.int .i64 (a2:Int),.string ⟨a3.toArray⟩,.int .i64 (a4:Int),.int .i64 (a5:Int),.int .i64 (a6:Int),.int .i64 (a7:Int),.int .u32 (a8:Int),.int .i64 (a9:Int)] 85))).below hbel5 (by omega)).set (g:=gm) (by omega) 3 (.slice A5 (j+1) c5))
     have HF5:=Jh (((HFy.out.alloc (.cells #[.string ⟨a1.toArray⟩,.int .i64 (a2:Int),.string ⟨a3.toArray⟩,.int .i64 (a4:Int),.int .i64 (a5:Int),.int .i64 (a6:Int),.int .i64 (a7:Int),.int .u32 (a8:Int),.int .i64 (a9:Int)] 85)).grown hgr5 (fun g hg=>by have:=(HOy.out.lt g hg).1;omega)).setCell (g:=gm) (.inr (.inl rfl)) 3 (.slice A5 (j+1) c5))
     have HB5:=Jh (hB5.set_ 3 (.slice A5 (j+1) c5))
     have HO5:Hid ((w5.setCell ⟨gm,3,none⟩ (.slice A5 (j+1) c5)).ownsRow (gm+1) 85 9 (.slice A5 (j+1) c5) (j+1) ((xs++[(⟨⟨a1.toArray⟩,a2,⟨a3.toArray⟩,a4,a5,a6,a7,a8,a9⟩:En)]).flatMap En.cs)):=Jh (by
      rw [List.flatMap_append,show [(⟨⟨a1.toArray⟩,a2,⟨a3.toArray⟩,a4,a5,a6,a7,a8,a9⟩:En)].flatMap En.cs=En.cs ⟨⟨a1.toArray⟩,a2,⟨a3.toArray⟩,a4,a5,a6,a7,a8,a9⟩ by simp]
      exact own_only hown5 ((Only.refl gm w5).setCell (.inl rfl) _) (by omega))
     simp only [Jd,Je,Jf] at HB5
     clear hc51 hc52 hr5 hbel5 hown5 hgr5 hob5 hB5 HCy HFy HBgA HOy hrd p0 p1 p2 p3 p4 p5 p6 p7 p8 q0 q1 q2 q3 q4 q5
     go_wp2
     go_roundw
     case rel=>exact ⟨j+1,_,l9,d9,A5,c5,by omega,by go_num,HQ2,HC5,HB5,HF5,HO5⟩
     case measure=>simp [intOf];omega
   obtain rfl:j=nE:=by omega
   have hEl:j=xs.length:=by have:=congrArg (fun r=>r.1.length) HQx.out;rw [rdL_len] at this;exact this
   subst hEl
   have HQE:=HQx
   have HOE:=HOr
   clear HQx HOr
   have hcb:wr.cell? ⟨gb,0,none⟩=some (.pointer (some ⟨gc,0,none⟩)):=HCr.out.box.cell 0
   go_wp2_with fail
   clear hcb
   refine (Nu.curNum_calls wr HCr.out.cur (by omega) (64) (by decide)).mono ?_
   rintro en1 x5 ⟨rfl,hcur,honly⟩
   generalize hq:Nu.curNum t kr er (64)=q at *
   obtain ⟨nM,k5,e5⟩:=q
   have HqNnM:=Jh hq
   dsimp only at hcur ⊢
   have HCs:=Jh (HCr.out.call hcur honly)
   have hle:=num_le hq (by omega)
   have HBs:=Jh (honly.blk HBr.out hne)
   have HFs:=Jh (HFr.out.trans (Fr2.of_only honly))
   have HKE0:=Jh (KeptRow.of ((Fr2.of_only honly:Fr2 gc gm wr x5).own HOE.out (by omega) (by omega)))
   have HKM0:Hid (KeptRow (gm+1) x5.heap.size 90 2 0 (.slice none 0 0) [] x5):=Jh KeptRow.nil
   clear hcur honly HCr hq
   have hglnM:gm<x5.heap.size:=HBs.out.lt
   clear HBr HFr HOE
   go_wp2
   have HOs:Hid (x5.ownsRow x5.heap.size 90 2 (.slice none 0 0) 0 (([]:List Mk).flatMap Mk.cs)):=Jh (World.ownsRow_nil _ _ _ _)
   generalize hbbnM:x5.heap.size=bM at *
   go_loopw [67] (fun i wr=>∃ (j:Nat) (ls:List Mk) (kr er:Nat) (Al:Option Addr) (cl:Nat),j≤nM∧i=.int .i64 (j:Int)∧Hid (rdL (rdK t) j k5 e5=(ls,kr,er))∧Hid (Cv wr gb gc t kr er)∧Hid (Blk wr gm 53 #[.int .i64 (g:Int),.int .i64 (cu:Int),.int .i64 (fe:Int),.slice Ax xs.length cx,.slice Al j cl,.slice none 0 0])∧Hid (Fr2 gc gm x3 wr)∧Hid (wr.ownsRow bM 90 2 (.slice Al j cl) j (ls.flatMap Mk.cs))∧Hid (KeptRow (gm+1) bM 85 9 xs.length (.slice Ax xs.length cx) (xs.flatMap En.cs) wr)∧Hid (KeptRow (gm+1) bM 90 2 (0:Nat) (.slice none 0 0) [] wr)∧bM≤wr.heap.size) (fun i _=>nM-(intOf i).toNat)
   case atStart=>exact ⟨0,[],k5,e5,none,0,Nat.zero_le _,rfl,Jh rfl,HCs,HBs,HFs,HOs,HKE0,HKM0,Nat.le_of_eq hbbnM.symm⟩
   case round =>
    clear HCs HBs HFs HOs HKE0 HKM0
    obtain ⟨j,ls,kr,er,Al,cl,hj,rfl,HQl,HCr,HBr,HFr,HOr,HKE,HKM,hbw⟩:=hrel
    by_cases hlt:j<nM
    ·have HCd:Hid (Cv wr.drew gb gc t kr er):=Jh (HCr.out.belowS (below_drewN_ (Below.refl _ _) 1))
     have HOd:Hid (Only gc wr wr.drew):=Jh (Only.refl gc wr).drew
     go_wp2_with fail
     refine wp_region_T 10 (fun w'=>w'.cell? ⟨gm,4,none⟩=some (.slice Al j cl)) (by kernel_rfl) (HBr.out.cell 4) (fun hHeld=>?_)
     generalize wr.drew=u0 at *
     apply tkT 0
     apply tkT 1
     apply tkT 2
     apply tkT 4
     clear hHeld
     refine wpAnyT_one (i:=3) (by kernel_rfl) rfl (fun K hK=>?_);go_simp
     refine (n_calls u0 HCd.out.box HCd.out.cur (by omega)).mono ?_
     rintro en1 u1 ⟨rfl,hcur,honly⟩
     generalize hq:Nu.curNum t kr er (1099511627775)=q at *
     obtain ⟨a1,l1,d1⟩:=q
     have Hq10:=Jh hq
     dsimp only at hcur ⊢
     have HD1:=Jh (HCd.out.call hcur honly)
     have HO1:=Jh (HOd.out.trans honly)
     clear hcur honly HCd hq
     have hS:=(HO1.out.blk HBr.out hne).cell 4
     refine hK.out _ _ (fun _=>hS) ?_
     clear hK K hS HOd
     (try simp only [Act.put,Jk,Jg,Ji,Jd,Je,Jf])
     refine wpAnyT_one (i:=5) (by kernel_rfl) rfl (fun K hK=>?_);go_simp
     refine (n_calls u1 HD1.out.box HD1.out.cur (by omega)).mono ?_
     rintro en1 u2 ⟨rfl,hcur,honly⟩
     generalize hq:Nu.curNum t l1 d1 (1099511627775)=q at *
     obtain ⟨a2,l2,d2⟩:=q
     have Hq11:=Jh hq
     dsimp only at hcur ⊢
     have HD2:=Jh (HD1.out.call hcur honly)
     have HO2:=Jh (HO1.out.trans honly)
     clear hcur honly HD1 hq
     have hS:=(HO2.out.blk HBr.out hne).cell 4
     refine hK.out _ _ (fun _=>hS) ?_
     clear hK K hS HO1
     (try simp only [Act.put,Jk,Jg,Ji,Jd,Je,Jf])
     have hSu:=(HO2.out.blk HBr.out hne).cell 4
     apply tkT 6
     refine wpAnyT_one (i:=7) (by kernel_rfl) rfl (fun K hK=>?_);go_simp
     have HBgA:=Jh ((HO2.out.blk HBr.out hne).alloc (.cells #[.int .i64 (a1:Int),.int .i64 (a2:Int)] 90))
     refine hK.out _ _ (fun _=>HBgA.out.cell 4) ?_
     clear hK K
     (try simp only [Act.put,Jk,Jg,Ji,Jd,Je,Jf])
     have HOy:=Jh (((Fr2.of_only HO2.out:Fr2 gc gm wr u2).own HOr.out (by omega) (by omega)).alloc (.cells #[.int .i64 (a1:Int),.int .i64 (a2:Int)] 90))
     have HKEy:=Jh ((HKE.out.fr (b:=u2.heap.size) ((Fr2.of_only HO2.out:Fr2 gc u2.heap.size wr u2)) (by omega) HO2.out.size).alloc (.cells #[.int .i64 (a1:Int),.int .i64 (a2:Int)] 90))
     have HKMy:=Jh ((HKM.out.fr (b:=u2.heap.size) ((Fr2.of_only HO2.out:Fr2 gc u2.heap.size wr u2)) (by omega) HO2.out.size).alloc (.cells #[.int .i64 (a1:Int),.int .i64 (a2:Int)] 90))
     have HQ2:=Jh (rdL_s HQl.out (show rdK t kr er=(⟨a1,a2⟩,l2,d2) by simp only [rdK,most,Hq10.out,Hq11.out]))
     have HFy:Hid (Fr2 gc gm x3 u2):=Jh (HFr.out.trans (Fr2.of_only HO2.out))
     have hszu:wr.heap.size≤u2.heap.size:=HO2.out.size
     have hgmr:gm<wr.heap.size:=HBr.out.lt
     have hrd:Reads (u2.alloc (.cells #[.int .i64 (a1:Int),.int .i64 (a2:Int)] 90)) (u2.heap.size+1) 2 (some ⟨u2.heap.size,0,none⟩) 1 (Mk.cs ⟨a1,a2⟩):=Reads.made (n:=1) (size:=2) u2 _ 90 rfl
     clear Hq10 Hq11 HOr HQl HCr HBr HFr HKE HKM
     refine wpAnyT_one (i:=8) (by kernel_rfl) rfl (fun K hK=>?_)
     refine step_append_sl _ rfl (.tmp 70) (.tmp 76) _ rfl bM 90 _ 2 16 Tryz.underlying24 Tryz.infoMk rfl (by omega) _ _ _ rfl HOy.out (u2.heap.size+1) _ 1 1 _ rfl hrd (mcs1' _) (by unfold maxLen;omega) (by omega) (by simp;omega) ?_
     intro A5 c5 w5 hc51 hc52 hr5 hbel5 hown5 hgr5 hob5
     have hB5:=HBgA.out.below hbel5 (by omega)
     have q3':w5.cell? ⟨gm,4,none⟩=some (.slice Al j cl):=hB5.cell 4
     have f3':=hB5.frozen 4
     have hrw:∀ g,(Value.slice Al j cl).ownBlock=some g→bM≤g:=fun g hg=>(HOy.out.lt g hg).1
     have HC5:=Jh (((HD2.out.belowS ((Below.refl _ _).alloc (Nat.le_refl _) (.cells #[.int .i64 (a1:Int),.int .i64 (a2:Int)] 90))).below hbel5 (by omega)).set (g:=gm) (by omega) 4 (.slice A5 (j+1) c5))
     have HF5:=Jh (((HFy.out.alloc (.cells #[.int .i64 (a1:Int),.int .i64 (a2:Int)] 90)).grown hgr5 (fun g hg=>by have:=hrw g hg;omega)).setCell (g:=gm) (.inr (.inl rfl)) 4 (.slice A5 (j+1) c5))
     have HB5:=Jh (hB5.set_ 4 (.slice A5 (j+1) c5))
     have HKE5:=Jh ((HKEy.out.grown hgr5 hrw).set (g:=gm) (by omega) 4 (.slice A5 (j+1) c5))
     have HKM5:=Jh ((HKMy.out.grown hgr5 hrw).set (g:=gm) (by omega) 4 (.slice A5 (j+1) c5))
     have hsz5:bM≤(w5.setCell ⟨gm,4,none⟩ (.slice A5 (j+1) c5)).heap.size:=by have:=hgr5.size;simp at this ⊢;omega
     have HO5:Hid ((w5.setCell ⟨gm,4,none⟩ (.slice A5 (j+1) c5)).ownsRow bM 90 2 (.slice A5 (j+1) c5) (j+1) ((ls++[(⟨a1,a2⟩:Mk)]).flatMap Mk.cs)):=Jh (by
      rw [List.flatMap_append,show [(⟨a1,a2⟩:Mk)].flatMap Mk.cs=Mk.cs ⟨a1,a2⟩ by simp]
      exact own_only hown5 ((Only.refl gm w5).setCell (.inl rfl) _) (by omega))
     simp only [Jd,Je,Jf] at HB5
     refine hK.out _ _ (fun _=>q3') ?_
     clear hK K hc51 hc52 hr5 hbel5 hown5 hgr5 hob5 hB5 HFy HBgA HOy hrd HKEy HKMy hrw HD2 HO2
     (try simp only [Act.put,Jk,Jg,Ji,Jd,Je,Jf])
     apply tkT 9
     refine wpAnyT_one (i:=10) (by kernel_rfl) rfl (fun K hK=>?_);go_simp
     refine hK.out _ _ (fun h=>absurd rfl h) (wpAnyT_done (by kernel_rfl) ?_ _)
     clear hK K
     go_wp2
     go_roundw
     case rel=>exact ⟨j+1,_,l2,d2,A5,c5,by omega,by go_num,HQ2,HC5,HB5,HF5,HO5,HKE5,HKM5,hsz5⟩
     case measure=>simp [intOf];omega
    obtain rfl:j=nM:=by omega
    have hMl:j=ls.length:=by have:=congrArg (fun r=>r.1.length) HQl.out;rw [rdL_len] at this;exact this
    subst hMl
    generalize ls=ms at *
    generalize Al=Am at *
    generalize cl=cm at *
    have HQM:=HQl
    have HOM:=HOr
    clear HQl HOr
    have hcb:wr.cell? ⟨gb,0,none⟩=some (.pointer (some ⟨gc,0,none⟩)):=HCr.out.box.cell 0
    go_wp2_with fail
    clear hcb
    refine (Nu.curNum_calls wr HCr.out.cur (by omega) (8) (by decide)).mono ?_
    rintro en1 x6 ⟨rfl,hcur,honly⟩
    generalize hq:Nu.curNum t kr er (8)=q at *
    obtain ⟨nO,k6,e6⟩:=q
    have HqNnO:=Jh hq
    dsimp only at hcur ⊢
    have HCs:=Jh (HCr.out.call hcur honly)
    have hle:=num_le hq (by omega)
    have HBs:=Jh (honly.blk HBr.out hne)
    have HFs:=Jh (HFr.out.trans (Fr2.of_only honly))
    have HKE0:=Jh (KeptRow.of ((Fr2.of_only honly:Fr2 gc gm wr x6).own HKE.out.1 (by omega) (by omega)))
    have HKM0:=Jh (KeptRow.of ((Fr2.of_only honly:Fr2 gc gm wr x6).own HOM.out (by omega) (by omega)))
    clear hcur honly HCr hq
    have hglnO:gm<x6.heap.size:=HBs.out.lt
    clear HBr HFr HKE HKM HOM
    go_wp2
    have HOs:Hid (x6.ownsRow x6.heap.size 26 3 (.slice none 0 0) 0 (([]:List Ow).flatMap Ow.cs)):=Jh (World.ownsRow_nil _ _ _ _)
    generalize hbbnO:x6.heap.size=bO at *
    go_loopw [82] (fun i wr=>∃ (j:Nat) (ls:List Ow) (kr er:Nat) (Al:Option Addr) (cl:Nat),j≤nO∧i=.int .i64 (j:Int)∧Hid (rdL (rdO t) j k6 e6=(ls,kr,er))∧Hid (Cv wr gb gc t kr er)∧Hid (Blk wr gm 53 #[.int .i64 (g:Int),.int .i64 (cu:Int),.int .i64 (fe:Int),.slice Ax xs.length cx,.slice Am ms.length cm,.slice Al j cl])∧Hid (Fr2 gc gm x3 wr)∧Hid (wr.ownsRow bO 26 3 (.slice Al j cl) j (ls.flatMap Ow.cs))∧Hid (KeptRow (gm+1) bO 85 9 xs.length (.slice Ax xs.length cx) (xs.flatMap En.cs) wr)∧Hid (KeptRow bM bO 90 2 ms.length (.slice Am ms.length cm) (ms.flatMap Mk.cs) wr)∧bO≤wr.heap.size) (fun i _=>nO-(intOf i).toNat)
    case atStart=>exact ⟨0,[],k6,e6,none,0,Nat.zero_le _,rfl,Jh rfl,HCs,HBs,HFs,HOs,HKE0,HKM0,Nat.le_of_eq hbbnO.symm⟩
    case round =>
     clear HCs HBs HFs HOs HKE0 HKM0
     obtain ⟨j,ls,kr,er,Al,cl,hj,rfl,HQl,HCr,HBr,HFr,HOr,HKE,HKM,hbw⟩:=hrel
     by_cases hlt:j<nO
     ·have HCd:Hid (Cv wr.drew gb gc t kr er):=Jh (HCr.out.belowS (below_drewN_ (Below.refl _ _) 1))
      have HOd:Hid (Only gc wr wr.drew):=Jh (Only.refl gc wr).drew
      go_wp2_with fail
      refine wp_region_T 12 (fun w'=>w'.cell? ⟨gm,5,none⟩=some (.slice Al j cl)) (by kernel_rfl) (HBr.out.cell 5) (fun hHeld=>?_)
      generalize wr.drew=u0 at *
      apply tkT 0
      apply tkT 1
      apply tkT 2
      apply tkT 4
      apply tkT 6
      clear hHeld
      refine wpAnyT_one (i:=3) (by kernel_rfl) rfl (fun K hK=>?_);go_simp
      refine (n_calls u0 HCd.out.box HCd.out.cur (by omega)).mono ?_
      rintro en1 u1 ⟨rfl,hcur,honly⟩
      generalize hq:Nu.curNum t kr er (1099511627775)=q at *
      obtain ⟨a1,l1,d1⟩:=q
      have Hq10:=Jh hq
      dsimp only at hcur ⊢
      have HD1:=Jh (HCd.out.call hcur honly)
      have HO1:=Jh (HOd.out.trans honly)
      clear hcur honly HCd hq
      have hS:=(HO1.out.blk HBr.out hne).cell 5
      refine hK.out _ _ (fun _=>hS) ?_
      clear hK K hS HOd
      (try simp only [Act.put,Jk,Jg,Ji,Jd,Je,Jf])
      refine wpAnyT_one (i:=5) (by kernel_rfl) rfl (fun K hK=>?_);go_simp
      refine (n_calls u1 HD1.out.box HD1.out.cur (by omega)).mono ?_
      rintro en1 u2 ⟨rfl,hcur,honly⟩
      generalize hq:Nu.curNum t l1 d1 (1099511627775)=q at *
      obtain ⟨a2,l2,d2⟩:=q
      have Hq11:=Jh hq
      dsimp only at hcur ⊢
      have HD2:=Jh (HD1.out.call hcur honly)
      have HO2:=Jh (HO1.out.trans honly)
      clear hcur honly HD1 hq
      have hS:=(HO2.out.blk HBr.out hne).cell 5
      refine hK.out _ _ (fun _=>hS) ?_
      clear hK K hS HO1
      (try simp only [Act.put,Jk,Jg,Ji,Jd,Je,Jf])
      refine wpAnyT_one (i:=7) (by kernel_rfl) rfl (fun K hK=>?_);go_simp
      refine (n_calls u2 HD2.out.box HD2.out.cur (by omega)).mono ?_
      rintro en1 u3 ⟨rfl,hcur,honly⟩
      generalize hq:Nu.curNum t l2 d2 (1099511627775)=q at *
      obtain ⟨a3,l3,d3⟩:=q
      have Hq12:=Jh hq
      dsimp only at hcur ⊢
      have HD3:=Jh (HD2.out.call hcur honly)
      have HO3:=Jh (HO2.out.trans honly)
      clear hcur honly HD2 hq
      have hS:=(HO3.out.blk HBr.out hne).cell 5
      refine hK.out _ _ (fun _=>hS) ?_
      clear hK K hS HO2
      (try simp only [Act.put,Jk,Jg,Ji,Jd,Je,Jf])
      have hSu:=(HO3.out.blk HBr.out hne).cell 5
      apply tkT 8
      refine wpAnyT_one (i:=9) (by kernel_rfl) rfl (fun K hK=>?_);go_simp
      have HBgA:=Jh ((HO3.out.blk HBr.out hne).alloc (.cells #[.int .i64 (a1:Int),.int .i64 (a2:Int),.int .i64 (a3:Int)] 26))
      refine hK.out _ _ (fun _=>HBgA.out.cell 5) ?_
      clear hK K
      (try simp only [Act.put,Jk,Jg,Ji,Jd,Je,Jf])
      have HOy:=Jh (((Fr2.of_only HO3.out:Fr2 gc gm wr u3).own HOr.out (by omega) (by omega)).alloc (.cells #[.int .i64 (a1:Int),.int .i64 (a2:Int),.int .i64 (a3:Int)] 26))
      have HKEy:=Jh ((HKE.out.fr (b:=u3.heap.size) ((Fr2.of_only HO3.out:Fr2 gc u3.heap.size wr u3)) (by omega) HO3.out.size).alloc (.cells #[.int .i64 (a1:Int),.int .i64 (a2:Int),.int .i64 (a3:Int)] 26))
      have HKMy:=Jh ((HKM.out.fr (b:=u3.heap.size) ((Fr2.of_only HO3.out:Fr2 gc u3.heap.size wr u3)) (by omega) HO3.out.size).alloc (.cells #[.int .i64 (a1:Int),.int .i64 (a2:Int),.int .i64 (a3:Int)] 26))
      have HQ2:=Jh (rdL_s HQl.out (show rdO t kr er=(⟨a1,a2,a3⟩,l3,d3) by simp only [rdO,most,Hq10.out,Hq11.out,Hq12.out]))
      have HFy:Hid (Fr2 gc gm x3 u3):=Jh (HFr.out.trans (Fr2.of_only HO3.out))
      have hszu:wr.heap.size≤u3.heap.size:=HO3.out.size
      have hgmr:gm<wr.heap.size:=HBr.out.lt
      have hrd:Reads (u3.alloc (.cells #[.int .i64 (a1:Int),.int .i64 (a2:Int),.int .i64 (a3:Int)] 26)) (u3.heap.size+1) 3 (some ⟨u3.heap.size,0,none⟩) 1 (Ow.cs ⟨a1,a2,a3⟩):=Reads.made (n:=1) (size:=3) u3 _ 26 rfl
      clear Hq10 Hq11 Hq12 HOr HQl HCr HBr HFr HKE HKM
      refine wpAnyT_one (i:=10) (by kernel_rfl) rfl (fun K hK=>?_)
      refine step_append_sl _ rfl (.tmp 85) (.tmp 93) _ rfl bO 26 _ 3 24 Tryz.underlying51 Tryz.infoOw rfl (by omega) _ _ _ rfl HOy.out (u3.heap.size+1) _ 1 1 _ rfl hrd (ocs1' _) (by unfold maxLen;omega) (by omega) (by simp;omega) ?_
      intro A5 c5 w5 hc51 hc52 hr5 hbel5 hown5 hgr5 hob5
      have hB5:=HBgA.out.below hbel5 (by omega)
      have q3':w5.cell? ⟨gm,5,none⟩=some (.slice Al j cl):=hB5.cell 5
      have f3':=hB5.frozen 5
      have hrw:∀ g,(Value.slice Al j cl).ownBlock=some g→bO≤g:=fun g hg=>(HOy.out.lt g hg).1
      have HC5:=Jh (((HD3.out.belowS ((Below.refl _ _).alloc (Nat.le_refl _) (.cells #[.int .i64 (a1:Int),.int .i64 (a2:Int),.int .i64 (a3:Int)] 26))).below hbel5 (by omega)).set (g:=gm) (by omega) 5 (.slice A5 (j+1) c5))
      have HF5:=Jh (((HFy.out.alloc (.cells #[.int .i64 (a1:Int),.int .i64 (a2:Int),.int .i64 (a3:Int)] 26)).grown hgr5 (fun g hg=>by have:=hrw g hg;omega)).setCell (g:=gm) (.inr (.inl rfl)) 5 (.slice A5 (j+1) c5))
      have HB5:=Jh (hB5.set_ 5 (.slice A5 (j+1) c5))
      have HKE5:=Jh ((HKEy.out.grown hgr5 hrw).set (g:=gm) (by omega) 5 (.slice A5 (j+1) c5))
      have HKM5:=Jh ((HKMy.out.grown hgr5 hrw).set (g:=gm) (by omega) 5 (.slice A5 (j+1) c5))
      have hsz5:bO≤(w5.setCell ⟨gm,5,none⟩ (.slice A5 (j+1) c5)).heap.size:=by have:=hgr5.size;simp at this ⊢;omega
      have HO5:Hid ((w5.setCell ⟨gm,5,none⟩ (.slice A5 (j+1) c5)).ownsRow bO 26 3 (.slice A5 (j+1) c5) (j+1) ((ls++[(⟨a1,a2,a3⟩:Ow)]).flatMap Ow.cs)):=Jh (by
       rw [List.flatMap_append,show [(⟨a1,a2,a3⟩:Ow)].flatMap Ow.cs=Ow.cs ⟨a1,a2,a3⟩ by simp]
       exact own_only hown5 ((Only.refl gm w5).setCell (.inl rfl) _) (by omega))
      simp only [Jd,Je,Jf] at HB5
      refine hK.out _ _ (fun _=>q3') ?_
      clear hK K hc51 hc52 hr5 hbel5 hown5 hgr5 hob5 hB5 HFy HBgA HOy hrd HKEy HKMy hrw HD3 HO3
      (try simp only [Act.put,Jk,Jg,Ji,Jd,Je,Jf])
      apply tkT 11
      refine wpAnyT_one (i:=12) (by kernel_rfl) rfl (fun K hK=>?_);go_simp
      refine hK.out _ _ (fun h=>absurd rfl h) (wpAnyT_done (by kernel_rfl) ?_ _)
      clear hK K
      go_wp2
      go_roundw
      case rel=>exact ⟨j+1,_,l3,d3,A5,c5,by omega,by go_num,HQ2,HC5,HB5,HF5,HO5,HKE5,HKM5,hsz5⟩
      case measure=>simp [intOf];omega
     obtain rfl:j=nO:=by omega
     have hOl:j=ls.length:=by have:=congrArg (fun r=>r.1.length) HQl.out;rw [rdL_len] at this;exact this
     subst hOl
     have HBm:=HBr
     clear HBr
     have HRM:=Jh (show rdM t k e=((⟨g,cu,fe,xs,ms,ls⟩:Md),kr,er) by simp only [rdM,most,Hq1.out,Hq2.out,Hq3.out,Hq4.out,HQE.out,HqNnM.out,HQM.out,HqNnO.out,HQl.out])
     have HDec:=Jh (HDB.out.trans (decT_eq Hq.out HRM.out))
     have hall:=rd_all HQE.out
     have HMw:Hid (Mow wr (w.heap.size+1) (⟨g,cu,fe,xs,ms,ls⟩:Md) ⟨Ax,cx,Am,cm,Al,cl⟩):=Jh (Mow.mk3 HKE.out.1 HKM.out.1 HOr.out (by omega) (by omega) (by omega))
     have HZr:=Jh (HFr.out.blk ((HF7.out.blk HZ2.out (by omega) (by omega))) (by omega) (by omega))
     have HBr:Hid (Below w.heap.size w wr):=Jh ((HBW2.out.trans (HF7.out.below (by omega) (by omega) (by omega))).trans (HFr.out.below (by omega) (by omega) (by omega)))
     have HGr:=Jh HBm.out
     have hlx:xs.length≤17592186044416∧ms.length≤17592186044416∧ls.length≤17592186044416:=by omega
     have HEn:=Jh (Nu.end_calls wr HCr.out.cur)
     have hcb:wr.cell? ⟨gb,0,none⟩=some (.pointer (some ⟨gc,0,none⟩)):=HCr.out.box.cell 0
     clear HQE HQM HQl HqNnM HqNnO Hq1 Hq2 Hq3 Hq4 Hq HRM HDB HKE HKM HOr HCr HF7 HFr HZ2 HBW2
     generalize hcd:Nu.curEnd t kr er=ce at *
     have Hcd:=Jh hcd
     clear hcd
     cases hok2:ok2
     ·have HF:Hid (RetAp w (decB s).1 (decB s).2 (.returned (.tuple #[.agg #[.int .i64 0,.int .i64 0,.int .i64 0,.slice none 0 0,.slice none 0 0,.slice none 0 0],.int .i64 4])) (set6 wr w.heap.size (.int .i64 0) (.int .i64 0) (.int .i64 0) (.slice none 0 0) (.slice none 0 0) (.slice none 0 0))):=Jh (by
       rw [HDec.out]
       unfold decM
       rw [if_neg (fun hh=>by have h1:=Hok.out;rw [hok2,decide_eq_true hh.1] at h1;cases h1)]
       exact ⟨nilP,rfl,Mow.zero _ _,set6_below HBr.out (Nat.le_refl _) _ _ _ _ _ _⟩)
      have hzr:=HZr.out
      obtain ⟨z0,z1,z2,z3,z4,z5⟩:wr.cell? ⟨w.heap.size,0,none⟩=some (.int .i64 0)∧wr.cell? ⟨w.heap.size,1,none⟩=some (.int .i64 0)∧wr.cell? ⟨w.heap.size,2,none⟩=some (.int .i64 0)∧wr.cell? ⟨w.heap.size,3,none⟩=some (.slice none 0 0)∧wr.cell? ⟨w.heap.size,4,none⟩=some (.slice none 0 0)∧wr.cell? ⟨w.heap.size,5,none⟩=some (.slice none 0 0):=⟨hzr.cell 0,hzr.cell 1,hzr.cell 2,hzr.cell 3,hzr.cell 4,hzr.cell 5⟩
      obtain ⟨f0,f1,f2,f3,f4,f5⟩:wr.frozen? ⟨w.heap.size,0,none⟩=false∧wr.frozen? ⟨w.heap.size,1,none⟩=false∧wr.frozen? ⟨w.heap.size,2,none⟩=false∧wr.frozen? ⟨w.heap.size,3,none⟩=false∧wr.frozen? ⟨w.heap.size,4,none⟩=false∧wr.frozen? ⟨w.heap.size,5,none⟩=false:=⟨hzr.frozen 0,hzr.frozen 1,hzr.frozen 2,hzr.frozen 3,hzr.frozen 4,hzr.frozen 5⟩
      clear hzr hall HDec HMw HEn hok2 hcb
      go_wp2
      refine bodyPost_ret (results_mf rfl _ _ w.heap.size 53 #[.int .i64 0,.int .i64 0,.int .i64 0,.slice none 0 0,.slice none 0 0,.slice none 0 0] _ _ rfl rfl (set6_blk HZr.out _ _ _ _ _ _) Tryz.underlying53 rfl (by kernel_rfl)) rfl ?_
      exact HF.out
     have hhd:hd=head5:=by
      have h1:=Hok.out
      rw [hok2] at h1
      exact of_decide_eq_true h1.symm
     have Hh:=Jh hhd
     clear hhd hok2 Hok
     go_wp2_with fail
     refine HEn.out.mono ?_
     rintro e1 w' ⟨rfl,dn,rfl⟩
     have HMw:=Jh (HMw.out.drewN dn)
     have hzr:=HZr.out.drewN dn
     have HBr:=Jh (below_drewN_ HBr.out dn)
     have hgr:=HGr.out.drewN dn
     generalize wr.drewN dn=wd at *
     have HZd:=Jh hzr
     clear HEn HZr HGr hcb HBm
     by_cases h0:ce=0
     ·subst h0
      simp only [Int.natCast_zero]
      have HRt:=Jh (right_calls wd (HMw.out.man hlx.1 hlx.2.1 hlx.2.2 fun x hx=>(hall x hx).1) (Nat.le_refl _) (fun x hx=>by have:=(hall x hx).2.2;omega) (HSh.out wd HBr.out))
      obtain ⟨q0,q1,q2,q3,q4,q5⟩:wd.cell? ⟨gm,0,none⟩=some (.int .i64 (g:Int))∧wd.cell? ⟨gm,1,none⟩=some (.int .i64 (cu:Int))∧wd.cell? ⟨gm,2,none⟩=some (.int .i64 (fe:Int))∧wd.cell? ⟨gm,3,none⟩=some (.slice Ax xs.length cx)∧wd.cell? ⟨gm,4,none⟩=some (.slice Am ms.length cm)∧wd.cell? ⟨gm,5,none⟩=some (.slice Al ls.length cl):=⟨hgr.cell 0,hgr.cell 1,hgr.cell 2,hgr.cell 3,hgr.cell 4,hgr.cell 5⟩
      have HGd:=Jh hgr
      clear hgr hzr
      go_wp2_with fail
      refine HRt.out.mono ?_
      rintro e2 w8 ⟨rfl,hb8⟩
      have HM8:=Jh (HMw.out.below hb8)
      have hg8:=HGd.out.below hb8 HGd.out.lt
      have hz8:=HZd.out.below hb8 HZd.out.lt
      have hb88:=HBr.out.trans (hb8.mono HBr.out.size)
      clear hb8 HRt q0 q1 q2 q3 q4 q5
      have HZ8:=Jh hz8
      obtain ⟨z0,z1,z2,z3,z4,z5⟩:w8.cell? ⟨w.heap.size,0,none⟩=some (.int .i64 0)∧w8.cell? ⟨w.heap.size,1,none⟩=some (.int .i64 0)∧w8.cell? ⟨w.heap.size,2,none⟩=some (.int .i64 0)∧w8.cell? ⟨w.heap.size,3,none⟩=some (.slice none 0 0)∧w8.cell? ⟨w.heap.size,4,none⟩=some (.slice none 0 0)∧w8.cell? ⟨w.heap.size,5,none⟩=some (.slice none 0 0):=⟨hz8.cell 0,hz8.cell 1,hz8.cell 2,hz8.cell 3,hz8.cell 4,hz8.cell 5⟩
      obtain ⟨f0,f1,f2,f3,f4,f5⟩:w8.frozen? ⟨w.heap.size,0,none⟩=false∧w8.frozen? ⟨w.heap.size,1,none⟩=false∧w8.frozen? ⟨w.heap.size,2,none⟩=false∧w8.frozen? ⟨w.heap.size,3,none⟩=false∧w8.frozen? ⟨w.heap.size,4,none⟩=false∧w8.frozen? ⟨w.heap.size,5,none⟩=false:=⟨hz8.frozen 0,hz8.frozen 1,hz8.frozen 2,hz8.frozen 3,hz8.frozen 4,hz8.frozen 5⟩
      cases hrt:rightB (⟨g,cu,fe,xs,ms,ls⟩:Md)
      ·have HF:Hid (RetAp w (decB s).1 (decB s).2 (.returned (.tuple #[.agg #[.int .i64 0,.int .i64 0,.int .i64 0,.slice none 0 0,.slice none 0 0,.slice none 0 0],.int .i64 4])) (set6 w8 w.heap.size (.int .i64 0) (.int .i64 0) (.int .i64 0) (.slice none 0 0) (.slice none 0 0) (.slice none 0 0))):=Jh (by
        rw [HDec.out]
        unfold decM
        rw [if_neg (fun hh=>by rw [hrt] at hh;cases hh.2.2)]
        exact ⟨nilP,rfl,Mow.zero _ _,set6_below hb88 (Nat.le_refl _) _ _ _ _ _ _⟩)
       clear hz8 hb88 hg8 hrt hall HDec HM8
       go_wp2
       refine bodyPost_ret (results_mf rfl _ _ w.heap.size 53 #[.int .i64 0,.int .i64 0,.int .i64 0,.slice none 0 0,.slice none 0 0,.slice none 0 0] _ _ rfl rfl (set6_blk HZ8.out _ _ _ _ _ _) Tryz.underlying53 rfl (by kernel_rfl)) rfl ?_
       exact HF.out
      ·have HF:Hid (RetAp w (decB s).1 (decB s).2 (.returned (.tuple #[.agg #[.int .i64 (g:Int),.int .i64 (cu:Int),.int .i64 (fe:Int),.slice Ax xs.length cx,.slice Am ms.length cm,.slice Al ls.length cl],.int .i64 0])) (set6 w8 w.heap.size (.int .i64 (g:Int)) (.int .i64 (cu:Int)) (.int .i64 (fe:Int)) (.slice Ax xs.length cx) (.slice Am ms.length cm) (.slice Al ls.length cl))):=Jh (by
        rw [HDec.out]
        unfold decM
        rw [if_pos ⟨Hh.out,Hcd.out,hrt⟩]
        exact ⟨⟨Ax,cx,Am,cm,Al,cl⟩,rfl,(HM8.out.set6 (Nat.lt_succ_self _) _ _ _ _ _ _).mono (Nat.le_succ _),set6_below hb88 (Nat.le_refl _) _ _ _ _ _ _⟩)
       obtain ⟨q0,q1,q2,q3,q4,q5⟩:w8.cell? ⟨gm,0,none⟩=some (.int .i64 (g:Int))∧w8.cell? ⟨gm,1,none⟩=some (.int .i64 (cu:Int))∧w8.cell? ⟨gm,2,none⟩=some (.int .i64 (fe:Int))∧w8.cell? ⟨gm,3,none⟩=some (.slice Ax xs.length cx)∧w8.cell? ⟨gm,4,none⟩=some (.slice Am ms.length cm)∧w8.cell? ⟨gm,5,none⟩=some (.slice Al ls.length cl):=⟨hg8.cell 0,hg8.cell 1,hg8.cell 2,hg8.cell 3,hg8.cell 4,hg8.cell 5⟩
       clear hz8 hb88 hg8 hrt hall HDec HM8
       go_wp2
       refine bodyPost_ret (results_mf rfl _ _ w.heap.size 53 #[.int .i64 (g:Int),.int .i64 (cu:Int),.int .i64 (fe:Int),.slice Ax xs.length cx,.slice Am ms.length cm,.slice Al ls.length cl] _ _ rfl rfl (set6_blk HZ8.out _ _ _ _ _ _) Tryz.underlying53 rfl (by kernel_rfl)) rfl ?_
       exact HF.out
     ·have hq0:((ce:Int) != 0)=true:=net (by omega)
      have HF:Hid (RetAp w (decB s).1 (decB s).2 (.returned (.tuple #[.agg #[.int .i64 0,.int .i64 0,.int .i64 0,.slice none 0 0,.slice none 0 0,.slice none 0 0],.int .i64 4])) (set6 wd w.heap.size (.int .i64 0) (.int .i64 0) (.int .i64 0) (.slice none 0 0) (.slice none 0 0) (.slice none 0 0))):=Jh (by
       rw [HDec.out]
       unfold decM
       rw [if_neg (fun hh=>h0 (Hcd.out.symm.trans hh.2.1))]
       exact ⟨nilP,rfl,Mow.zero _ _,set6_below HBr.out (Nat.le_refl _) _ _ _ _ _ _⟩)
      obtain ⟨z0,z1,z2,z3,z4,z5⟩:wd.cell? ⟨w.heap.size,0,none⟩=some (.int .i64 0)∧wd.cell? ⟨w.heap.size,1,none⟩=some (.int .i64 0)∧wd.cell? ⟨w.heap.size,2,none⟩=some (.int .i64 0)∧wd.cell? ⟨w.heap.size,3,none⟩=some (.slice none 0 0)∧wd.cell? ⟨w.heap.size,4,none⟩=some (.slice none 0 0)∧wd.cell? ⟨w.heap.size,5,none⟩=some (.slice none 0 0):=⟨hzr.cell 0,hzr.cell 1,hzr.cell 2,hzr.cell 3,hzr.cell 4,hzr.cell 5⟩
      obtain ⟨f0,f1,f2,f3,f4,f5⟩:wd.frozen? ⟨w.heap.size,0,none⟩=false∧wd.frozen? ⟨w.heap.size,1,none⟩=false∧wd.frozen? ⟨w.heap.size,2,none⟩=false∧wd.frozen? ⟨w.heap.size,3,none⟩=false∧wd.frozen? ⟨w.heap.size,4,none⟩=false∧wd.frozen? ⟨w.heap.size,5,none⟩=false:=⟨hzr.frozen 0,hzr.frozen 1,hzr.frozen 2,hzr.frozen 3,hzr.frozen 4,hzr.frozen 5⟩
      clear hzr hgr h0 hall HDec HMw
      go_wp2
      refine bodyPost_ret (results_mf rfl _ _ w.heap.size 53 #[.int .i64 0,.int .i64 0,.int .i64 0,.slice none 0 0,.slice none 0 0,.slice none 0 0] _ _ rfl rfl (set6_blk HZd.out _ _ _ _ _ _) Tryz.underlying53 rfl (by kernel_rfl)) rfl ?_
      exact HF.out
 ·have hq:((eo:Int) != 0)=true:=net (by omega)
  have HF:Hid (RetAp w (decB s).1 (decB s).2 (.returned (.tuple #[.agg #[.int .i64 0,.int .i64 0,.int .i64 0,.slice none 0 0,.slice none 0 0,.slice none 0 0],.int .i64 (eo:Int)])) (set6 w1 w.heap.size (.int .i64 0) (.int .i64 0) (.int .i64 0) (.slice none 0 0) (.slice none 0 0) (.slice none 0 0))):=Jh (by
   rw [decB_err Hop.out he]
   exact ⟨nilP,rfl,Mow.zero _ _,set6_below hbw1 (Nat.le_refl _) _ _ _ _ _ _⟩)
  have HZ1:=Jh hz1
  clear hz1 hbw1 he Hop
  go_wp2
  refine bodyPost_ret (results_mf rfl _ _ w.heap.size 53 #[.int .i64 0,.int .i64 0,.int .i64 0,.slice none 0 0,.slice none 0 0,.slice none 0 0] _ _ rfl rfl (set6_blk HZ1.out _ _ _ _ _ _) Tryz.underlying53 rfl (by kernel_rfl)) rfl ?_
  exact HF.out
end Go.Proofs.YtibnehaibgbliaaGreat.Mf
