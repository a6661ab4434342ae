/- Laws for the row's walk. -/
import Derived.Test.YtibnehaibgbliaaGreatR17
import Derived.Test.YtibnehaibgbliaaGreatR16
set_option linter.unusedVariables false
set_option linter.unusedSimpArgs false
open Go.Lib renaming hid → Jh
open List renaming getElem?_toArray → Ja, getElem?_cons_zero → Jb, getElem?_cons_succ → Jc, setIfInBounds_toArray → Jd, set_cons_zero → Je, set_cons_succ → Jf
namespace Go.Proofs.YtibnehaibgbliaaGreat.Mf
open Go.RowKit Go.Proofs.YtibnehaibgbliaaGreat
def DecC:Prop:=∀ (w:World) {B n c:Nat} {A:Option Addr} {s:List UInt8},Bytes w B A n s→B≤w.heap.size→n≤c→n≤1000000→Sh w→Calls Tryz.prog 33 #[.slice A n c] w (RetAp w (decB s).1 (decB s).2)
def RetTake (w:World) (base g:Nat) (s':Cst) (q:Pd) (e:Ending) (w':World):Prop:=e=.returned (.int .i64 0)∧∃ pr pn,CmAt w' base g s' q pr pn∧Only g w w'
section
variable {base g:Nat} {s:Cst} {q:Pd} {pr pn:Pl}
set_option maxRecDepth 100000 in
set_option maxHeartbeats 3200000 in
theorem take_no (w:World) (h:CmAt w base g s q pr pn) (ha:s.asked=false) (r0 r1 r2 r3 r4 r5 r6:Value) (now:Int) :
  Calls Tryz.prog 11 #[.pointer (some ⟨g,0,none⟩),.agg #[r0,r1,r2,r3,r4,r5,r6],.int .i64 now] w fun e w'=>e=.returned (.int .i64 1)∧Below w.heap.size w w':=by
 have h2:=h.blk.alloc (.cells #[r0,r1,r2,r3,r4,r5,r6] 42)
 have z0:=h2.cell 13
 simp only [Ja,Jb,Jc] at z0
 rw [ha] at z0
 clear h h2
 go_enter Tryz.func11,Tryz.ntmps11
 go_wp2
 go_ret
 exact ⟨rfl,(Below.refl _ _).alloc (Nat.le_refl _) _⟩
abbrev repA (err:Int) (A:Option Addr) (n c:Nat) (ver:Int) (r3 r4 r5 r6:Value):Array Value:=#[.int .i64 err,.slice A n c,.int .i64 ver,r3,r4,r5,r6]
set_option maxRecDepth 100000 in
set_option maxHeartbeats 3200000 in
theorem take_done (w:World) (h:CmAt w base g s q pr pn) (ha:s.asked=true) (hw:s.writes=true) (A:Option Addr) (n c:Nat) (ver:Int) (r3 r4 r5 r6:Value) (now:Int) (err:Int) (he:Hid (err=0)) :
  Calls Tryz.prog 11 #[.pointer (some ⟨g,0,none⟩),.agg (repA err A n c ver r3 r4 r5 r6),.int .i64 now] w (RetTake w base g ({ s with asked:=false,writes:=false,read:=s.next,st:=1,er:=0 }) q):=by
 have h2:=h.blk.alloc (.cells (repA err A n c ver r3 r4 r5 r6) 42)
 have z0:=h2.cell 13
 have z2:=(h2.set_ 13 (.bool false)).cell 14
 have f0:=h2.frozen 13
 have f1:=h2.frozen 14
 have b3:=(h2.set_ 13 (.bool false)).set_ 14 (.bool false)
 have f2:=(h2.set_ 13 (.bool false)).frozen 14
 simp only [Jd,Je,Jf] at b3 z2
 simp only [Ja,Jb,Jc] at z0 z2
 rw [ha] at z0
 rw [hw] at z2
 have hne:g≠w.heap.size:=by have:=h.blk.lt;omega
 have hr:=((Blk.new w 42 (repA err A n c ver r3 r4 r5 r6)).far (p:=⟨g,13,none⟩) (Ne.symm hne) (.bool false)).far (p:=⟨g,14,none⟩) (Ne.symm hne) (.bool false)
 have ho:Only g w (((w.alloc (.cells (repA err A n c ver r3 r4 r5 r6) 42)).setCell ⟨g,13,none⟩ (.bool false)).setCell ⟨g,14,none⟩ (.bool false)):=(((Only.refl g w).alloc _).setCell (.inl rfl) _).setCell (.inl rfl) _
 have HC:=Jh (h.put ho (s':={ s with asked:=false,writes:=false }) b3 rfl (h.read_ ho) (h.next_ ho))
 have HR:=Jh hr
 have HO:=Jh ho
 have HN:=Jh hne
 clear h h2 b3 hr hne ho
 go_enter Tryz.func11,Tryz.ntmps11
 go_upto_region 10 with fail
 obtain ⟨gr,hgr⟩:∃ gr,gr=w.heap.size:=⟨_,rfl⟩
 rw [← hgr] at HR HN ⊢
 clear hgr z0 z2 f0 f1 f2
 generalize ((w.alloc (.cells (repA err A n c ver r3 r4 r5 r6) 42)).setCell ⟨g,13,none⟩ (.bool false)).setCell ⟨g,14,none⟩ (.bool false)=w3 at *
 have r0:=HR.out.cell 0
 simp only [Ja,Jb,Jc] at r0
 obtain rfl:=he.out
 have f15:=HC.out.blk.frozen 15
 have y15:=HC.out.blk.cell 15
 have f16:=HC.out.blk.frozen 16
 have y16:=HC.out.blk.cell 16
 have f17:=HC.out.blk.frozen 17
 have y17:=HC.out.blk.cell 17
 have f18:=HC.out.blk.frozen 18
 have y18:=HC.out.blk.cell 18
 have f19:=HC.out.blk.frozen 19
 have y19:=HC.out.blk.cell 19
 have f20:=HC.out.blk.frozen 20
 have y20:=HC.out.blk.cell 20
 have f21:=HC.out.blk.frozen 21
 have y21:=HC.out.blk.cell 21
 have f22:=HC.out.blk.frozen 22
 have y22:=HC.out.blk.cell 22
 have f23:=HC.out.blk.frozen 23
 have y23:=HC.out.blk.cell 23
 have f24:=HC.out.blk.frozen 24
 have y24:=HC.out.blk.cell 24
 have f25:=HC.out.blk.frozen 25
 have y25:=HC.out.blk.cell 25
 have f26:=HC.out.blk.frozen 26
 have y26:=HC.out.blk.cell 26
 simp only [Ja,Jb,Jc] at y15 y16 y17 y18 y19 y20 y21 y22 y23 y24 y25 y26
 have b9:=((((((HC.out.blk.set_ 15 (.int .i64 s.next.gen)).set_ 16 (.int .i64 s.next.cut)).set_ 17 (.int .i64 s.next.fence)).set_ 18 (.slice pn.AE s.next.E.length pn.cE)).set_ 19 (.slice pn.AM s.next.M.length pn.cM)).set_ 20 (.slice pn.AO s.next.O.length pn.cO))
 simp only [Jd,Je,Jf] at b9
 have ho9:Only g w3 ((((((w3.setCell ⟨g,15,none⟩ (.int .i64 s.next.gen)).setCell ⟨g,16,none⟩ (.int .i64 s.next.cut)).setCell ⟨g,17,none⟩ (.int .i64 s.next.fence)).setCell ⟨g,18,none⟩ (.slice pn.AE s.next.E.length pn.cE)).setCell ⟨g,19,none⟩ (.slice pn.AM s.next.M.length pn.cM)).setCell ⟨g,20,none⟩ (.slice pn.AO s.next.O.length pn.cO)):=((((((Only.refl g w3).setCell (p:=⟨g,15,none⟩) (.inl rfl) (.int .i64 s.next.gen)).setCell (p:=⟨g,16,none⟩) (.inl rfl) (.int .i64 s.next.cut)).setCell (p:=⟨g,17,none⟩) (.inl rfl) (.int .i64 s.next.fence)).setCell (p:=⟨g,18,none⟩) (.inl rfl) (.slice pn.AE s.next.E.length pn.cE)).setCell (p:=⟨g,19,none⟩) (.inl rfl) (.slice pn.AM s.next.M.length pn.cM)).setCell (p:=⟨g,20,none⟩) (.inl rfl) (.slice pn.AO s.next.O.length pn.cO)
 have HC9:=Jh (HC.out.put ho9 (s':={ s with asked:=false,writes:=false,read:=s.next }) (pr':=pn) (pn':=pn) b9 rfl (HC.out.next_ ho9) (HC.out.next_ ho9))
 have HO9:=Jh (HO.out.trans ho9)
 clear b9 ho9
 go_upto_region 17 with fail
 generalize ((((((w3.setCell ⟨g,15,none⟩ (.int .i64 s.next.gen)).setCell ⟨g,16,none⟩ (.int .i64 s.next.cut)).setCell ⟨g,17,none⟩ (.int .i64 s.next.fence)).setCell ⟨g,18,none⟩ (.slice pn.AE s.next.E.length pn.cE)).setCell ⟨g,19,none⟩ (.slice pn.AM s.next.M.length pn.cM)).setCell ⟨g,20,none⟩ (.slice pn.AO s.next.O.length pn.cO))=w4 at *
 clear f15 f16 f17 f18 f19 f20 y15 y16 y17 y18 y19 y20 y21 y22 y23 y24 y25 y26 r0
 have HEn:=Jh (end_calls w4 HC9.out.blk (.int .i64 s.st) (.int .i64 s.er) rfl rfl 1 0)
 have b6:=((HC9.out.blk).set_ 27 (.int .i64 1)).set_ 28 (.int .i64 0)
 simp only [Jd,Je,Jf] at b6
 have ho6:Only g w4 ((w4.setCell ⟨g,27,none⟩ (.int .i64 1)).setCell ⟨g,28,none⟩ (.int .i64 0)):=((Only.refl g w4).setCell (.inl rfl) _).setCell (.inl rfl) _
 have HC6:=Jh (HC9.out.put ho6 (s':={ s with asked:=false,writes:=false,read:=s.next,st:=1,er:=0 }) b6 rfl (HC9.out.read_ ho6) (HC9.out.next_ ho6))
 have HO6:=Jh (HO9.out.trans ho6)
 clear b6 ho6
 go_wp2_with fail
 refine HEn.out.mono ?_
 rintro en w6 ⟨rfl,rfl⟩
 go_wp2
 go_ret
 exact ⟨rfl,_,_,HC6.out,HO6.out⟩
set_option maxRecDepth 100000 in
set_option maxHeartbeats 3200000 in
theorem take_vers (w:World) (h:CmAt w base g s q pr pn) (ha:s.asked=true) (hw:s.writes=true) (A:Option Addr) (n c:Nat) (ver:Int) (r3 r4 r5 r6:Value) (now:Int) (err:Int) (he:Hid (err=8)) :
  Calls Tryz.prog 11 #[.pointer (some ⟨g,0,none⟩),.agg (repA err A n c ver r3 r4 r5 r6),.int .i64 now] w (RetTake w base g ({ s with asked:=false,writes:=false }) q):=by
 have h2:=h.blk.alloc (.cells (repA err A n c ver r3 r4 r5 r6) 42)
 have z0:=h2.cell 13
 have z2:=(h2.set_ 13 (.bool false)).cell 14
 have f0:=h2.frozen 13
 have f1:=h2.frozen 14
 have b3:=(h2.set_ 13 (.bool false)).set_ 14 (.bool false)
 have f2:=(h2.set_ 13 (.bool false)).frozen 14
 simp only [Jd,Je,Jf] at b3 z2
 simp only [Ja,Jb,Jc] at z0 z2
 rw [ha] at z0
 rw [hw] at z2
 have hne:g≠w.heap.size:=by have:=h.blk.lt;omega
 have hr:=((Blk.new w 42 (repA err A n c ver r3 r4 r5 r6)).far (p:=⟨g,13,none⟩) (Ne.symm hne) (.bool false)).far (p:=⟨g,14,none⟩) (Ne.symm hne) (.bool false)
 have ho:Only g w (((w.alloc (.cells (repA err A n c ver r3 r4 r5 r6) 42)).setCell ⟨g,13,none⟩ (.bool false)).setCell ⟨g,14,none⟩ (.bool false)):=(((Only.refl g w).alloc _).setCell (.inl rfl) _).setCell (.inl rfl) _
 have HC:=Jh (h.put ho (s':={ s with asked:=false,writes:=false }) b3 rfl (h.read_ ho) (h.next_ ho))
 have HR:=Jh hr
 have HO:=Jh ho
 have HN:=Jh hne
 clear h h2 b3 hr hne ho
 go_enter Tryz.func11,Tryz.ntmps11
 go_upto_region 10 with fail
 obtain ⟨gr,hgr⟩:∃ gr,gr=w.heap.size:=⟨_,rfl⟩
 rw [← hgr] at HR HN ⊢
 clear hgr z0 z2 f0 f1 f2
 generalize ((w.alloc (.cells (repA err A n c ver r3 r4 r5 r6) 42)).setCell ⟨g,13,none⟩ (.bool false)).setCell ⟨g,14,none⟩ (.bool false)=w3 at *
 have r0:=HR.out.cell 0
 simp only [Ja,Jb,Jc] at r0
 obtain rfl:=he.out
 go_wp2
 go_ret
 exact ⟨rfl,_,_,HC.out,HO.out⟩
set_option maxRecDepth 100000 in
set_option maxHeartbeats 3200000 in
theorem take_wfail (w:World) (h:CmAt w base g s q pr pn) (ha:s.asked=true) (hw:s.writes=true) (A:Option Addr) (n c:Nat) (ver:Int) (r3 r4 r5 r6:Value) (now:Int) (err:Int) (h10:err≠10) (h9:err≠9) (h8:err≠8) (h0:err≠0) :
  Calls Tryz.prog 11 #[.pointer (some ⟨g,0,none⟩),.agg (repA err A n c ver r3 r4 r5 r6),.int .i64 now] w (RetTake w base g ({ s with asked:=false,writes:=false,st:=3,er:=err }) q):=by
 have h2:=h.blk.alloc (.cells (repA err A n c ver r3 r4 r5 r6) 42)
 have z0:=h2.cell 13
 have z2:=(h2.set_ 13 (.bool false)).cell 14
 have f0:=h2.frozen 13
 have f1:=h2.frozen 14
 have b3:=(h2.set_ 13 (.bool false)).set_ 14 (.bool false)
 have f2:=(h2.set_ 13 (.bool false)).frozen 14
 simp only [Jd,Je,Jf] at b3 z2
 simp only [Ja,Jb,Jc] at z0 z2
 rw [ha] at z0
 rw [hw] at z2
 have hne:g≠w.heap.size:=by have:=h.blk.lt;omega
 have hr:=((Blk.new w 42 (repA err A n c ver r3 r4 r5 r6)).far (p:=⟨g,13,none⟩) (Ne.symm hne) (.bool false)).far (p:=⟨g,14,none⟩) (Ne.symm hne) (.bool false)
 have ho:Only g w (((w.alloc (.cells (repA err A n c ver r3 r4 r5 r6) 42)).setCell ⟨g,13,none⟩ (.bool false)).setCell ⟨g,14,none⟩ (.bool false)):=(((Only.refl g w).alloc _).setCell (.inl rfl) _).setCell (.inl rfl) _
 have HC:=Jh (h.put ho (s':={ s with asked:=false,writes:=false }) b3 rfl (h.read_ ho) (h.next_ ho))
 have HR:=Jh hr
 have HO:=Jh ho
 have HN:=Jh hne
 clear h h2 b3 hr hne ho
 go_enter Tryz.func11,Tryz.ntmps11
 go_upto_region 10 with fail
 obtain ⟨gr,hgr⟩:∃ gr,gr=w.heap.size:=⟨_,rfl⟩
 rw [← hgr] at HR HN ⊢
 clear hgr z0 z2 f0 f1 f2
 generalize ((w.alloc (.cells (repA err A n c ver r3 r4 r5 r6) 42)).setCell ⟨g,13,none⟩ (.bool false)).setCell ⟨g,14,none⟩ (.bool false)=w3 at *
 have r0:=HR.out.cell 0
 simp only [Ja,Jb,Jc] at r0
 have e10:(err == 10)=false:=eqf h10
 have e9:(err == 9)=false:=eqf h9
 have e8:(err == 8)=false:=eqf h8
 have e0:(err == 0)=false:=eqf h0
 have n0:(err != 0)=true:=net h0
 have HEn:=Jh (end_calls w3 HC.out.blk (.int .i64 s.st) (.int .i64 s.er) rfl rfl 3 err)
 have b6:=((HC.out.blk).set_ 27 (.int .i64 3)).set_ 28 (.int .i64 err)
 simp only [Jd,Je,Jf] at b6
 have ho6:Only g w3 ((w3.setCell ⟨g,27,none⟩ (.int .i64 3)).setCell ⟨g,28,none⟩ (.int .i64 err)):=((Only.refl g w3).setCell (.inl rfl) _).setCell (.inl rfl) _
 have HC6:=Jh (HC.out.put ho6 (s':={ s with asked:=false,writes:=false,st:=3,er:=err }) b6 rfl (HC.out.read_ ho6) (HC.out.next_ ho6))
 have HO6:=Jh (HO.out.trans ho6)
 clear b6 ho6
 go_wp2_with fail
 refine HEn.out.mono ?_
 rintro en w6 ⟨rfl,rfl⟩
 go_wp2
 go_ret
 exact ⟨rfl,_,_,HC6.out,HO6.out⟩
set_option maxRecDepth 100000 in
set_option maxHeartbeats 3200000 in
theorem take_rfail (w:World) (h:CmAt w base g s q pr pn) (ha:s.asked=true) (hw:s.writes=false) (A:Option Addr) (n c:Nat) (ver:Int) (r3 r4 r5 r6:Value) (now:Int) (err:Int) (h10:err≠10) (h9:err≠9) (h7:err≠7) (h0:err≠0) :
  Calls Tryz.prog 11 #[.pointer (some ⟨g,0,none⟩),.agg (repA err A n c ver r3 r4 r5 r6),.int .i64 now] w (RetTake w base g ({ s with asked:=false,writes:=false,st:=3,er:=err }) q):=by
 have h2:=h.blk.alloc (.cells (repA err A n c ver r3 r4 r5 r6) 42)
 have z0:=h2.cell 13
 have z2:=(h2.set_ 13 (.bool false)).cell 14
 have f0:=h2.frozen 13
 have f1:=h2.frozen 14
 have b3:=(h2.set_ 13 (.bool false)).set_ 14 (.bool false)
 have f2:=(h2.set_ 13 (.bool false)).frozen 14
 simp only [Jd,Je,Jf] at b3 z2
 simp only [Ja,Jb,Jc] at z0 z2
 rw [ha] at z0
 rw [hw] at z2
 have hne:g≠w.heap.size:=by have:=h.blk.lt;omega
 have hr:=((Blk.new w 42 (repA err A n c ver r3 r4 r5 r6)).far (p:=⟨g,13,none⟩) (Ne.symm hne) (.bool false)).far (p:=⟨g,14,none⟩) (Ne.symm hne) (.bool false)
 have ho:Only g w (((w.alloc (.cells (repA err A n c ver r3 r4 r5 r6) 42)).setCell ⟨g,13,none⟩ (.bool false)).setCell ⟨g,14,none⟩ (.bool false)):=(((Only.refl g w).alloc _).setCell (.inl rfl) _).setCell (.inl rfl) _
 have HC:=Jh (h.put ho (s':={ s with asked:=false,writes:=false }) b3 rfl (h.read_ ho) (h.next_ ho))
 have HR:=Jh hr
 have HO:=Jh ho
 have HN:=Jh hne
 clear h h2 b3 hr hne ho
 go_enter Tryz.func11,Tryz.ntmps11
 go_upto_region 10 with fail
 obtain ⟨gr,hgr⟩:∃ gr,gr=w.heap.size:=⟨_,rfl⟩
 rw [← hgr] at HR HN ⊢
 clear hgr z0 z2 f0 f1 f2
 generalize ((w.alloc (.cells (repA err A n c ver r3 r4 r5 r6) 42)).setCell ⟨g,13,none⟩ (.bool false)).setCell ⟨g,14,none⟩ (.bool false)=w3 at *
 have r0:=HR.out.cell 0
 simp only [Ja,Jb,Jc] at r0
 have e10:(err == 10)=false:=eqf h10
 have e9:(err == 9)=false:=eqf h9
 have e7:(err == 7)=false:=eqf h7
 have n0:(err != 0)=true:=net h0
 have HEn:=Jh (end_calls w3 HC.out.blk (.int .i64 s.st) (.int .i64 s.er) rfl rfl 3 err)
 have b6:=((HC.out.blk).set_ 27 (.int .i64 3)).set_ 28 (.int .i64 err)
 simp only [Jd,Je,Jf] at b6
 have ho6:Only g w3 ((w3.setCell ⟨g,27,none⟩ (.int .i64 3)).setCell ⟨g,28,none⟩ (.int .i64 err)):=((Only.refl g w3).setCell (.inl rfl) _).setCell (.inl rfl) _
 have HC6:=Jh (HC.out.put ho6 (s':={ s with asked:=false,writes:=false,st:=3,er:=err }) b6 rfl (HC.out.read_ ho6) (HC.out.next_ ho6))
 have HO6:=Jh (HO.out.trans ho6)
 clear b6 ho6
 go_wp2_with fail
 refine HEn.out.mono ?_
 rintro en w6 ⟨rfl,rfl⟩
 go_wp2
 go_ret
 exact ⟨rfl,_,_,HC6.out,HO6.out⟩
set_option maxRecDepth 100000 in
set_option maxHeartbeats 3200000 in
theorem take_none (hap:ApplyC) (hb0:0<base) (hge:Ge s.d) (w:World) (hsh:Sh w) (h:CmAt w base g s q pr pn) (ha:s.asked=true) (hw:s.writes=false) (A:Option Addr) (n c:Nat) (ver:Int) (r3 r4 r5 r6:Value) (now:Int) (err:Int) (he:Hid (err=7)) :
  Calls Tryz.prog 11 #[.pointer (some ⟨g,0,none⟩),.agg (repA err A n c ver r3 r4 r5 r6),.int .i64 now] w (RetTake w base g (sawS { s with asked:=false,writes:=false } zeroM 0) q):=by
 have h2:=h.blk.alloc (.cells (repA err A n c ver r3 r4 r5 r6) 42)
 have z0:=h2.cell 13
 have z2:=(h2.set_ 13 (.bool false)).cell 14
 have f0:=h2.frozen 13
 have f1:=h2.frozen 14
 have b3:=(h2.set_ 13 (.bool false)).set_ 14 (.bool false)
 have f2:=(h2.set_ 13 (.bool false)).frozen 14
 simp only [Jd,Je,Jf] at b3 z2
 simp only [Ja,Jb,Jc] at z0 z2
 rw [ha] at z0
 rw [hw] at z2
 have hne:g≠w.heap.size:=by have:=h.blk.lt;omega
 have hr:=((Blk.new w 42 (repA err A n c ver r3 r4 r5 r6)).far (p:=⟨g,13,none⟩) (Ne.symm hne) (.bool false)).far (p:=⟨g,14,none⟩) (Ne.symm hne) (.bool false)
 have ho:Only g w (((w.alloc (.cells (repA err A n c ver r3 r4 r5 r6) 42)).setCell ⟨g,13,none⟩ (.bool false)).setCell ⟨g,14,none⟩ (.bool false)):=(((Only.refl g w).alloc _).setCell (.inl rfl) _).setCell (.inl rfl) _
 have HC:=Jh (h.put ho (s':={ s with asked:=false,writes:=false }) b3 rfl (h.read_ ho) (h.next_ ho))
 have HR:=Jh hr
 have HO:=Jh ho
 have HN:=Jh hne
 clear h h2 b3 hr hne ho
 go_enter Tryz.func11,Tryz.ntmps11
 go_upto_region 10 with fail
 obtain ⟨gr,hgr⟩:∃ gr,gr=w.heap.size:=⟨_,rfl⟩
 rw [← hgr] at HR HN ⊢
 clear hgr z0 z2 f0 f1 f2
 generalize ((w.alloc (.cells (repA err A n c ver r3 r4 r5 r6) 42)).setCell ⟨g,13,none⟩ (.bool false)).setCell ⟨g,14,none⟩ (.bool false)=w3 at *
 have r0:=HR.out.cell 0
 simp only [Ja,Jb,Jc] at r0
 obtain rfl:=he.out
 have HSw:=Jh (saw_calls hap w3 HC.out hb0 (Mow.zero w3 base) Gd.zero hge 0 (Sh.only_ hsh HO.out (by have:=HC.out.low;omega)))
 go_wp2_with fail
 refine HSw.out.mono ?_
 rintro en w6 ⟨rfl,pr',pn',HC6,HO6⟩
 have HO9:=Jh (HO.out.trans HO6)
 have HC9:=Jh HC6
 clear HC6 HO6
 go_wp2
 go_ret
 exact ⟨rfl,_,_,HC9.out,HO9.out⟩
set_option maxRecDepth 100000 in
set_option maxHeartbeats 3200000 in
theorem take_garb (hap:ApplyC) (hdc:DecC) (hb0:0<base) (hge:Ge s.d) (w:World) (hsh:Sh w) (h:CmAt w base g s q pr pn) (ha:s.asked=true) (hw:s.writes=false) (A:Option Addr) (n c:Nat) (ver:Int) (r3 r4 r5 r6:Value) (now:Int) (err:Int) (he:Hid (err=0)) (data:List UInt8) (hbt:Hid (∀ w',Only g w w'→Bytes w' w'.heap.size A n data)) (hnc:n≤c) (hn:n≤1000000) (hgd:Gd (decB data).1) (hok:Hid ((decB data).2≠0)) :
  Calls Tryz.prog 11 #[.pointer (some ⟨g,0,none⟩),.agg (repA err A n c ver r3 r4 r5 r6),.int .i64 now] w (RetTake w base g ({ s with asked:=false,writes:=false,st:=3,er:=(decB data).2 }) q):=by
 have h2:=h.blk.alloc (.cells (repA err A n c ver r3 r4 r5 r6) 42)
 have z0:=h2.cell 13
 have z2:=(h2.set_ 13 (.bool false)).cell 14
 have f0:=h2.frozen 13
 have f1:=h2.frozen 14
 have b3:=(h2.set_ 13 (.bool false)).set_ 14 (.bool false)
 have f2:=(h2.set_ 13 (.bool false)).frozen 14
 simp only [Jd,Je,Jf] at b3 z2
 simp only [Ja,Jb,Jc] at z0 z2
 rw [ha] at z0
 rw [hw] at z2
 have hne:g≠w.heap.size:=by have:=h.blk.lt;omega
 have hr:=((Blk.new w 42 (repA err A n c ver r3 r4 r5 r6)).far (p:=⟨g,13,none⟩) (Ne.symm hne) (.bool false)).far (p:=⟨g,14,none⟩) (Ne.symm hne) (.bool false)
 have ho:Only g w (((w.alloc (.cells (repA err A n c ver r3 r4 r5 r6) 42)).setCell ⟨g,13,none⟩ (.bool false)).setCell ⟨g,14,none⟩ (.bool false)):=(((Only.refl g w).alloc _).setCell (.inl rfl) _).setCell (.inl rfl) _
 have HC:=Jh (h.put ho (s':={ s with asked:=false,writes:=false }) b3 rfl (h.read_ ho) (h.next_ ho))
 have HR:=Jh hr
 have HO:=Jh ho
 have HN:=Jh hne
 clear h h2 b3 hr hne ho
 go_enter Tryz.func11,Tryz.ntmps11
 go_upto_region 10 with fail
 obtain ⟨gr,hgr⟩:∃ gr,gr=w.heap.size:=⟨_,rfl⟩
 rw [← hgr] at HR HN ⊢
 clear hgr z0 z2 f0 f1 f2
 generalize ((w.alloc (.cells (repA err A n c ver r3 r4 r5 r6) 42)).setCell ⟨g,13,none⟩ (.bool false)).setCell ⟨g,14,none⟩ (.bool false)=w3 at *
 have r0:=HR.out.cell 0
 simp only [Ja,Jb,Jc] at r0
 obtain rfl:=he.out
 have r1:=HR.out.cell 1
 simp only [Ja,Jb,Jc] at r1
 have HSh3:=Jh (Sh.only_ hsh HO.out (by have:=HC.out.low;omega))
 have HDc:=Jh (hdc w3 (c:=c) (hbt.out w3 HO.out) (Nat.le_refl _) hnc hn HSh3.out)
 go_wp2_with fail
 refine HDc.out.mono ?_
 rintro en w5 ⟨pz,rfl,hmo,hb5⟩
 have HB5:=Jh hb5
 have HC5:=Jh (HC.out.below hb5)
 have HO5:Hid (Only g w w5):=Jh (HO.out.trans (Only.of_below hb5))
 have HR5:=Jh (HR.out.below hb5 HR.out.lt)
 have HM5:=Jh (Mow.mono hmo (b2:=base) (by have:=HC.out.blk.lt;have:=HC.out.low;omega))
 have HSh5:=Jh (HSh3.out.below hb5 HSh3.out.lt)
 clear hmo hb5 HDc HC HR HO r0 r1
 obtain ⟨er5,her5⟩:∃ e,e=(decB data).2:=⟨_,rfl⟩
 have HE5:=Jh her5
 rw [← her5] at hok ⊢
 clear her5
 have e5:(er5 != 0)=true:=net hok.out
 have HB6:=(Below.refl w5.heap.size w5).alloc (Nat.le_refl _) (.cells #[.int .i64 (decB data).1.gen,.int .i64 (decB data).1.cut,.int .i64 (decB data).1.fence,.slice pz.AE (decB data).1.E.length pz.cE,.slice pz.AM (decB data).1.M.length pz.cM,.slice pz.AO (decB data).1.O.length pz.cO] 53)
 have HC6:=Jh (HC5.out.below HB6)
 have HO6:Hid (Only g w (w5.alloc (.cells #[.int .i64 (decB data).1.gen,.int .i64 (decB data).1.cut,.int .i64 (decB data).1.fence,.slice pz.AE (decB data).1.E.length pz.cE,.slice pz.AM (decB data).1.M.length pz.cM,.slice pz.AO (decB data).1.O.length pz.cO] 53))):=Jh (HO5.out.trans (Only.of_below HB6))
 have HEn:=Jh (end_calls (w5.alloc (.cells #[.int .i64 (decB data).1.gen,.int .i64 (decB data).1.cut,.int .i64 (decB data).1.fence,.slice pz.AE (decB data).1.E.length pz.cE,.slice pz.AM (decB data).1.M.length pz.cM,.slice pz.AO (decB data).1.O.length pz.cO] 53)) HC6.out.blk (.int .i64 s.st) (.int .i64 s.er) rfl rfl 3 er5)
 have b6:=(HC6.out.blk.set_ 27 (.int .i64 3)).set_ 28 (.int .i64 er5)
 simp only [Jd,Je,Jf] at b6
 have ho6:Only g (w5.alloc (.cells #[.int .i64 (decB data).1.gen,.int .i64 (decB data).1.cut,.int .i64 (decB data).1.fence,.slice pz.AE (decB data).1.E.length pz.cE,.slice pz.AM (decB data).1.M.length pz.cM,.slice pz.AO (decB data).1.O.length pz.cO] 53)) (((w5.alloc (.cells #[.int .i64 (decB data).1.gen,.int .i64 (decB data).1.cut,.int .i64 (decB data).1.fence,.slice pz.AE (decB data).1.E.length pz.cE,.slice pz.AM (decB data).1.M.length pz.cM,.slice pz.AO (decB data).1.O.length pz.cO] 53)).setCell ⟨g,27,none⟩ (.int .i64 3)).setCell ⟨g,28,none⟩ (.int .i64 er5)):=((Only.refl g _).setCell (.inl rfl) _).setCell (.inl rfl) _
 have HC7:=Jh (HC6.out.put ho6 (s':={ s with asked:=false,writes:=false,st:=3,er:=er5 }) b6 rfl (HC6.out.read_ ho6) (HC6.out.next_ ho6))
 have HO7:=Jh (HO6.out.trans ho6)
 clear b6 ho6 HB6 HC5 HO5 HM5 HSh5 HC6 HO6
 go_wp2_with fail
 refine HEn.out.mono ?_
 rintro en w6 ⟨rfl,rfl⟩
 go_wp2
 go_ret
 exact ⟨rfl,_,_,by rw [← HE5.out];exact HC7.out,HO7.out⟩
set_option maxRecDepth 100000 in
set_option maxHeartbeats 3200000 in
theorem take_read (hap:ApplyC) (hdc:DecC) (hb0:0<base) (hge:Ge s.d) (w:World) (hsh:Sh w) (h:CmAt w base g s q pr pn) (ha:s.asked=true) (hw:s.writes=false) (A:Option Addr) (n c:Nat) (ver:Int) (r3 r4 r5 r6:Value) (now:Int) (err:Int) (he:Hid (err=0)) (data:List UInt8) (hbt:Hid (∀ w',Only g w w'→Bytes w' w'.heap.size A n data)) (hnc:n≤c) (hn:n≤1000000) (hgd:Gd (decB data).1) (hok:Hid ((decB data).2=0)) :
  Calls Tryz.prog 11 #[.pointer (some ⟨g,0,none⟩),.agg (repA err A n c ver r3 r4 r5 r6),.int .i64 now] w (RetTake w base g (sawS { s with asked:=false,writes:=false } (decB data).1 ver) q):=by
 have h2:=h.blk.alloc (.cells (repA err A n c ver r3 r4 r5 r6) 42)
 have z0:=h2.cell 13
 have z2:=(h2.set_ 13 (.bool false)).cell 14
 have f0:=h2.frozen 13
 have f1:=h2.frozen 14
 have b3:=(h2.set_ 13 (.bool false)).set_ 14 (.bool false)
 have f2:=(h2.set_ 13 (.bool false)).frozen 14
 simp only [Jd,Je,Jf] at b3 z2
 simp only [Ja,Jb,Jc] at z0 z2
 rw [ha] at z0
 rw [hw] at z2
 have hne:g≠w.heap.size:=by have:=h.blk.lt;omega
 have hr:=((Blk.new w 42 (repA err A n c ver r3 r4 r5 r6)).far (p:=⟨g,13,none⟩) (Ne.symm hne) (.bool false)).far (p:=⟨g,14,none⟩) (Ne.symm hne) (.bool false)
 have ho:Only g w (((w.alloc (.cells (repA err A n c ver r3 r4 r5 r6) 42)).setCell ⟨g,13,none⟩ (.bool false)).setCell ⟨g,14,none⟩ (.bool false)):=(((Only.refl g w).alloc _).setCell (.inl rfl) _).setCell (.inl rfl) _
 have HC:=Jh (h.put ho (s':={ s with asked:=false,writes:=false }) b3 rfl (h.read_ ho) (h.next_ ho))
 have HR:=Jh hr
 have HO:=Jh ho
 have HN:=Jh hne
 clear h h2 b3 hr hne ho
 go_enter Tryz.func11,Tryz.ntmps11
 go_upto_region 10 with fail
 obtain ⟨gr,hgr⟩:∃ gr,gr=w.heap.size:=⟨_,rfl⟩
 rw [← hgr] at HR HN ⊢
 clear hgr z0 z2 f0 f1 f2
 generalize ((w.alloc (.cells (repA err A n c ver r3 r4 r5 r6) 42)).setCell ⟨g,13,none⟩ (.bool false)).setCell ⟨g,14,none⟩ (.bool false)=w3 at *
 have r0:=HR.out.cell 0
 simp only [Ja,Jb,Jc] at r0
 obtain rfl:=he.out
 have r1:=HR.out.cell 1
 simp only [Ja,Jb,Jc] at r1
 have HSh3:=Jh (Sh.only_ hsh HO.out (by have:=HC.out.low;omega))
 have HDc:=Jh (hdc w3 (c:=c) (hbt.out w3 HO.out) (Nat.le_refl _) hnc hn HSh3.out)
 go_wp2_with fail
 refine HDc.out.mono ?_
 rintro en w5 ⟨pz,rfl,hmo,hb5⟩
 have HB5:=Jh hb5
 have HC5:=Jh (HC.out.below hb5)
 have HO5:Hid (Only g w w5):=Jh (HO.out.trans (Only.of_below hb5))
 have HR5:=Jh (HR.out.below hb5 HR.out.lt)
 have HM5:=Jh (Mow.mono hmo (b2:=base) (by have:=HC.out.blk.lt;have:=HC.out.low;omega))
 have HSh5:=Jh (HSh3.out.below hb5 HSh3.out.lt)
 clear hmo hb5 HDc HC HR HO r0 r1
 obtain ⟨er5,her5⟩:∃ e,e=(decB data).2:=⟨_,rfl⟩
 rw [← her5] at hok ⊢
 clear her5
 obtain rfl:=hok.out
 have HB6:=(Below.refl w5.heap.size w5).alloc (Nat.le_refl _) (.cells #[.int .i64 (decB data).1.gen,.int .i64 (decB data).1.cut,.int .i64 (decB data).1.fence,.slice pz.AE (decB data).1.E.length pz.cE,.slice pz.AM (decB data).1.M.length pz.cM,.slice pz.AO (decB data).1.O.length pz.cO] 53)
 have HC6:=Jh (HC5.out.below HB6)
 have HM6:=Jh (HM5.out.below HB6)
 have HSh6:=Jh (HSh5.out.below HB6 HSh5.out.lt)
 have HO6:Hid (Only g w (w5.alloc (.cells #[.int .i64 (decB data).1.gen,.int .i64 (decB data).1.cut,.int .i64 (decB data).1.fence,.slice pz.AE (decB data).1.E.length pz.cE,.slice pz.AM (decB data).1.M.length pz.cM,.slice pz.AO (decB data).1.O.length pz.cO] 53))):=Jh (HO5.out.trans (Only.of_below HB6))
 have HSw:=Jh (saw_calls hap (w5.alloc (.cells #[.int .i64 (decB data).1.gen,.int .i64 (decB data).1.cut,.int .i64 (decB data).1.fence,.slice pz.AE (decB data).1.E.length pz.cE,.slice pz.AM (decB data).1.M.length pz.cM,.slice pz.AO (decB data).1.O.length pz.cO] 53)) HC6.out hb0 HM6.out hgd hge ver HSh6.out)
 have r2:=HR5.out.cell 2
 have hgr5:=HR5.out.lt
 simp only [Ja,Jb,Jc] at r2
 clear HB6 HC5 HO5 HM5 HSh5 HC6 HM6 HSh6
 go_wp2_with fail
 refine HSw.out.mono ?_
 rintro en w9 ⟨rfl,pr',pn',HC9,HO9⟩
 have HO10:=Jh (HO6.out.trans HO9)
 have HC10:=Jh HC9
 clear HC9 HO9
 go_wp2
 go_ret
 exact ⟨rfl,_,_,HC10.out,HO10.out⟩
set_option maxRecDepth 100000 in
set_option maxHeartbeats 3200000 in
theorem take_net (w:World) (h:CmAt w base g s q pr pn) (ha:s.asked=true) (A:Option Addr) (n c:Nat) (ver:Int) (r3 r4 r5 r6:Value) (now:Int) (err:Int) (he:Hid (err=10∨err=9)) (hf:s.fails≤7) (h0:0≤now) (h9:now≤1099511627776) (hwt:0≤s.wait∧s.wait≤1099511627776) (s9 e9:Int) (hs:Hid (s.tries≤(s.fails:Int)+1→s9=3∧e9=15)) (hs':Hid (¬ s.tries≤(s.fails:Int)+1→s9=s.st∧e9=s.er)) (wr:Bool) (hw:s.writes=wr) :
  Calls Tryz.prog 11 #[.pointer (some ⟨g,0,none⟩),.agg (repA err A n c ver r3 r4 r5 r6),.int .i64 now] w (RetTake w base g ({ s with asked:=false,writes:=false,fails:=s.fails+1,due:=now+s.wait*2 ^ s.fails,st:=s9,er:=e9 }) q):=by
 have h2:=h.blk.alloc (.cells (repA err A n c ver r3 r4 r5 r6) 42)
 have z0:=h2.cell 13
 have z2:=(h2.set_ 13 (.bool false)).cell 14
 have f0:=h2.frozen 13
 have f1:=h2.frozen 14
 have b3:=(h2.set_ 13 (.bool false)).set_ 14 (.bool false)
 have f2:=(h2.set_ 13 (.bool false)).frozen 14
 simp only [Jd,Je,Jf] at b3 z2
 simp only [Ja,Jb,Jc] at z0 z2
 rw [ha] at z0
 rw [hw] at z2
 have hne:g≠w.heap.size:=by have:=h.blk.lt;omega
 have hr:=((Blk.new w 42 (repA err A n c ver r3 r4 r5 r6)).far (p:=⟨g,13,none⟩) (Ne.symm hne) (.bool false)).far (p:=⟨g,14,none⟩) (Ne.symm hne) (.bool false)
 have ho:Only g w (((w.alloc (.cells (repA err A n c ver r3 r4 r5 r6) 42)).setCell ⟨g,13,none⟩ (.bool false)).setCell ⟨g,14,none⟩ (.bool false)):=(((Only.refl g w).alloc _).setCell (.inl rfl) _).setCell (.inl rfl) _
 have HC:=Jh (h.put ho (s':={ s with asked:=false,writes:=false }) b3 rfl (h.read_ ho) (h.next_ ho))
 have HR:=Jh hr
 have HO:=Jh ho
 have HN:=Jh hne
 clear h h2 b3 hr hne ho
 go_enter Tryz.func11,Tryz.ntmps11
 go_upto_region 10 with fail
 obtain ⟨gr,hgr⟩:∃ gr,gr=w.heap.size:=⟨_,rfl⟩
 rw [← hgr] at HR HN ⊢
 clear hgr z0 z2 f0 f1 f2
 generalize ((w.alloc (.cells (repA err A n c ver r3 r4 r5 r6) 42)).setCell ⟨g,13,none⟩ (.bool false)).setCell ⟨g,14,none⟩ (.bool false)=w3 at *
 have r0:=HR.out.cell 0
 simp only [Ja,Jb,Jc] at r0
 clear hw
 have hp:0≤s.wait*2 ^ s.fails∧s.wait*2 ^ s.fails≤140737488355328:=by
  have hpw:(1:Int)≤2 ^ s.fails∧(2:Int) ^ s.fails≤128:=by
   generalize s.fails=n at hf
   rcases n with _|_|_|_|_|_|_|_|n
   all_goals first|decide|omega
  refine ⟨Int.mul_nonneg hwt.1 (by omega),?_⟩
  have h2:=Int.mul_le_mul hwt.2 hpw.2 (by omega) (by omega)
  omega
 have HP:=Jh hp
 clear hp hwt
 rcases he.out with h10|h10
 ·obtain rfl:=h10
  have c10:=HC.out.blk.cell 10
  have f10:=HC.out.blk.frozen 10
  simp only [Ja,Jb,Jc] at c10
  have e1:IntKind.i64.wrap ((s.fails:Int)+1)=(s.fails:Int)+1:=IntWalk.i64_in _ (by omega)
  have b4:=HC.out.blk.set_ 10 (.int .i64 ((s.fails:Int)+1))
  simp only [Jd,Je,Jf] at b4
  have ho4:Only g w3 (w3.setCell ⟨g,10,none⟩ (.int .i64 ((s.fails:Int)+1))):=(Only.refl g w3).setCell (.inl rfl) _
  have HC4:Hid (CmAt (w3.setCell ⟨g,10,none⟩ (.int .i64 ((s.fails:Int)+1))) base g { s with asked:=false,writes:=false,fails:=s.fails+1 } q pr pn):=Jh (HC.out.put ho4 (s':={ s with asked:=false,writes:=false,fails:=s.fails+1 }) b4 rfl (HC.out.read_ ho4) (HC.out.next_ ho4))
  have HO4:=Jh (HO.out.trans ho4)
  clear b4 ho4
  go_upto_region 12 with fail
  clear r0 c10 f10
  generalize w3.setCell ⟨g,10,none⟩ (.int .i64 ((s.fails:Int)+1))=w4 at *
  have y10:w4.cell? ⟨g,10,none⟩=some (.int .i64 ((s.fails:Int)+1)):=HC4.out.blk.cell 10
  have y8:=HC4.out.blk.cell 8
  simp only [Ja,Jb,Jc] at y8
  go_quiet (fail)
  clear y10 y8
  have HC5:=Jh (HC4.out.below (below_drewN_ (Below.refl _ _) nq))
  have HO5:=Jh (HO4.out.drewN nq)
  generalize w4.drewN nq=w5 at *
  have e2:IntKind.i64.wrap ((s.fails:Int)+1-1)=(s.fails:Int):=by rw [show (s.fails:Int)+1-1=(s.fails:Int) by omega];exact IntWalk.i64_in _ (by omega)
  have e2':IntKind.i64.wrap (s.fails:Int)=(s.fails:Int):=IntWalk.i64_in _ (by omega)
  have e3:IntKind.i64.wrap (s.wait*2 ^ s.fails)=s.wait*2 ^ s.fails:=IntWalk.i64_in _ (by have:=HP.out;omega)
  have e4:IntKind.i64.wrap (now+s.wait*2 ^ s.fails)=now+s.wait*2 ^ s.fails:=IntWalk.i64_in _ (by have:=HP.out;omega)
  have s0:(0:Int)≤(s.fails:Int):=by omega
  have s1:(s.fails:Int)≤64:=by omega
  by_cases ht:s.tries≤(s.fails:Int)+1
  ·have dt:decide (s.tries≤(s.fails:Int)+1)=true:=dct ht
   have HS9:=Jh (hs.out ht)
   have HEn:=Jh (end_calls w5 HC5.out.blk (.int .i64 s.st) (.int .i64 s.er) rfl rfl 3 15)
   have b6:=(HC5.out.blk.set_ 27 (.int .i64 3)).set_ 28 (.int .i64 15)
   simp only [Jd,Je,Jf] at b6
   have ho6:Only g w5 ((w5.setCell ⟨g,27,none⟩ (.int .i64 3)).setCell ⟨g,28,none⟩ (.int .i64 15)):=((Only.refl g w5).setCell (.inl rfl) _).setCell (.inl rfl) _
   have HCz:Hid (CmAt ((w5.setCell ⟨g,27,none⟩ (.int .i64 3)).setCell ⟨g,28,none⟩ (.int .i64 15)) base g { s with asked:=false,writes:=false,fails:=s.fails+1,st:=3,er:=15 } q pr pn):=Jh (HC5.out.put ho6 (s':={ s with asked:=false,writes:=false,fails:=s.fails+1,st:=3,er:=15 }) b6 rfl (HC5.out.read_ ho6) (HC5.out.next_ ho6))
   have HOz:=Jh (HO5.out.trans ho6)
   clear b6 ho6
   go_wp2_with fail
   refine HEn.out.mono ?_
   rintro en w6 ⟨rfl,rfl⟩
   clear HEn HC5 HO5
   generalize (w5.setCell ⟨g,27,none⟩ (.int .i64 3)).setCell ⟨g,28,none⟩ (.int .i64 15)=wz at *
   have y9:=HCz.out.blk.cell 9
   have y10:wz.cell? ⟨g,10,none⟩=some (.int .i64 ((s.fails:Int)+1)):=HCz.out.blk.cell 10
   have y11:=HCz.out.blk.cell 11
   have f11:=HCz.out.blk.frozen 11
   simp only [Ja,Jb,Jc] at y9 y11
   have b9:=HCz.out.blk.set_ 11 (.int .i64 (now+s.wait*2 ^ s.fails))
   simp only [Jd,Je,Jf] at b9
   have ho9:Only g wz (wz.drew.setCell ⟨g,11,none⟩ (.int .i64 (now+s.wait*2 ^ s.fails))):=(Only.refl g wz).drew.setCell (.inl rfl) _
   have HC9:=Jh (HCz.out.put ho9 (s':={ s with asked:=false,writes:=false,fails:=s.fails+1,due:=now+s.wait*2 ^ s.fails,st:=3,er:=15 }) b9 rfl (HCz.out.read_ ho9) (HCz.out.next_ ho9))
   have HO9:=Jh (HOz.out.trans ho9)
   clear b9 ho9
   go_wp2_with fail
   go_still_tail 15,(by kernel_rfl)
   go_wp2
   go_ret
   obtain ⟨rfl,rfl⟩:=HS9.out
   exact ⟨rfl,_,_,HC9.out,HO9.out⟩
  ·have dt:decide (s.tries≤(s.fails:Int)+1)=false:=dcf ht
   have HS9:=Jh (hs'.out ht)
   have HCz:=HC5
   have HOz:=HO5
   obtain ⟨wz,rfl⟩:∃ wz:World,wz=w5:=⟨_,rfl⟩
   have y9:=HCz.out.blk.cell 9
   have y10:wz.cell? ⟨g,10,none⟩=some (.int .i64 ((s.fails:Int)+1)):=HCz.out.blk.cell 10
   have y11:=HCz.out.blk.cell 11
   have f11:=HCz.out.blk.frozen 11
   simp only [Ja,Jb,Jc] at y9 y11
   have b9:=HCz.out.blk.set_ 11 (.int .i64 (now+s.wait*2 ^ s.fails))
   simp only [Jd,Je,Jf] at b9
   have ho9:Only g wz (wz.drew.setCell ⟨g,11,none⟩ (.int .i64 (now+s.wait*2 ^ s.fails))):=(Only.refl g wz).drew.setCell (.inl rfl) _
   have HC9:=Jh (HCz.out.put ho9 (s':={ s with asked:=false,writes:=false,fails:=s.fails+1,due:=now+s.wait*2 ^ s.fails,st:=s.st,er:=s.er }) b9 rfl (HCz.out.read_ ho9) (HCz.out.next_ ho9))
   have HO9:=Jh (HOz.out.trans ho9)
   clear b9 ho9
   go_wp2_with fail
   go_still_tail 15,(by kernel_rfl)
   go_wp2
   go_ret
   obtain ⟨rfl,rfl⟩:=HS9.out
   exact ⟨rfl,_,_,HC9.out,HO9.out⟩
 ·obtain rfl:=h10
  have c10:=HC.out.blk.cell 10
  have f10:=HC.out.blk.frozen 10
  simp only [Ja,Jb,Jc] at c10
  have e1:IntKind.i64.wrap ((s.fails:Int)+1)=(s.fails:Int)+1:=IntWalk.i64_in _ (by omega)
  have b4:=HC.out.blk.set_ 10 (.int .i64 ((s.fails:Int)+1))
  simp only [Jd,Je,Jf] at b4
  have ho4:Only g w3 (w3.setCell ⟨g,10,none⟩ (.int .i64 ((s.fails:Int)+1))):=(Only.refl g w3).setCell (.inl rfl) _
  have HC4:Hid (CmAt (w3.setCell ⟨g,10,none⟩ (.int .i64 ((s.fails:Int)+1))) base g { s with asked:=false,writes:=false,fails:=s.fails+1 } q pr pn):=Jh (HC.out.put ho4 (s':={ s with asked:=false,writes:=false,fails:=s.fails+1 }) b4 rfl (HC.out.read_ ho4) (HC.out.next_ ho4))
  have HO4:=Jh (HO.out.trans ho4)
  clear b4 ho4
  go_upto_region 12 with fail
  clear r0 c10 f10
  generalize w3.setCell ⟨g,10,none⟩ (.int .i64 ((s.fails:Int)+1))=w4 at *
  have y10:w4.cell? ⟨g,10,none⟩=some (.int .i64 ((s.fails:Int)+1)):=HC4.out.blk.cell 10
  have y8:=HC4.out.blk.cell 8
  simp only [Ja,Jb,Jc] at y8
  go_quiet (fail)
  clear y10 y8
  have HC5:=Jh (HC4.out.below (below_drewN_ (Below.refl _ _) nq))
  have HO5:=Jh (HO4.out.drewN nq)
  generalize w4.drewN nq=w5 at *
  have e2:IntKind.i64.wrap ((s.fails:Int)+1-1)=(s.fails:Int):=by rw [show (s.fails:Int)+1-1=(s.fails:Int) by omega];exact IntWalk.i64_in _ (by omega)
  have e2':IntKind.i64.wrap (s.fails:Int)=(s.fails:Int):=IntWalk.i64_in _ (by omega)
  have e3:IntKind.i64.wrap (s.wait*2 ^ s.fails)=s.wait*2 ^ s.fails:=IntWalk.i64_in _ (by have:=HP.out;omega)
  have e4:IntKind.i64.wrap (now+s.wait*2 ^ s.fails)=now+s.wait*2 ^ s.fails:=IntWalk.i64_in _ (by have:=HP.out;omega)
  have s0:(0:Int)≤(s.fails:Int):=by omega
  have s1:(s.fails:Int)≤64:=by omega
  by_cases ht:s.tries≤(s.fails:Int)+1
  ·have dt:decide (s.tries≤(s.fails:Int)+1)=true:=dct ht
   have HS9:=Jh (hs.out ht)
   have HEn:=Jh (end_calls w5 HC5.out.blk (.int .i64 s.st) (.int .i64 s.er) rfl rfl 3 15)
   have b6:=(HC5.out.blk.set_ 27 (.int .i64 3)).set_ 28 (.int .i64 15)
   simp only [Jd,Je,Jf] at b6
   have ho6:Only g w5 ((w5.setCell ⟨g,27,none⟩ (.int .i64 3)).setCell ⟨g,28,none⟩ (.int .i64 15)):=((Only.refl g w5).setCell (.inl rfl) _).setCell (.inl rfl) _
   have HCz:Hid (CmAt ((w5.setCell ⟨g,27,none⟩ (.int .i64 3)).setCell ⟨g,28,none⟩ (.int .i64 15)) base g { s with asked:=false,writes:=false,fails:=s.fails+1,st:=3,er:=15 } q pr pn):=Jh (HC5.out.put ho6 (s':={ s with asked:=false,writes:=false,fails:=s.fails+1,st:=3,er:=15 }) b6 rfl (HC5.out.read_ ho6) (HC5.out.next_ ho6))
   have HOz:=Jh (HO5.out.trans ho6)
   clear b6 ho6
   go_wp2_with fail
   refine HEn.out.mono ?_
   rintro en w6 ⟨rfl,rfl⟩
   clear HEn HC5 HO5
   generalize (w5.setCell ⟨g,27,none⟩ (.int .i64 3)).setCell ⟨g,28,none⟩ (.int .i64 15)=wz at *
   have y9:=HCz.out.blk.cell 9
   have y10:wz.cell? ⟨g,10,none⟩=some (.int .i64 ((s.fails:Int)+1)):=HCz.out.blk.cell 10
   have y11:=HCz.out.blk.cell 11
   have f11:=HCz.out.blk.frozen 11
   simp only [Ja,Jb,Jc] at y9 y11
   have b9:=HCz.out.blk.set_ 11 (.int .i64 (now+s.wait*2 ^ s.fails))
   simp only [Jd,Je,Jf] at b9
   have ho9:Only g wz (wz.drew.setCell ⟨g,11,none⟩ (.int .i64 (now+s.wait*2 ^ s.fails))):=(Only.refl g wz).drew.setCell (.inl rfl) _
   have HC9:=Jh (HCz.out.put ho9 (s':={ s with asked:=false,writes:=false,fails:=s.fails+1,due:=now+s.wait*2 ^ s.fails,st:=3,er:=15 }) b9 rfl (HCz.out.read_ ho9) (HCz.out.next_ ho9))
   have HO9:=Jh (HOz.out.trans ho9)
   clear b9 ho9
   go_wp2_with fail
   go_still_tail 15,(by kernel_rfl)
   go_wp2
   go_ret
   obtain ⟨rfl,rfl⟩:=HS9.out
   exact ⟨rfl,_,_,HC9.out,HO9.out⟩
  ·have dt:decide (s.tries≤(s.fails:Int)+1)=false:=dcf ht
   have HS9:=Jh (hs'.out ht)
   have HCz:=HC5
   have HOz:=HO5
   obtain ⟨wz,rfl⟩:∃ wz:World,wz=w5:=⟨_,rfl⟩
   have y9:=HCz.out.blk.cell 9
   have y10:wz.cell? ⟨g,10,none⟩=some (.int .i64 ((s.fails:Int)+1)):=HCz.out.blk.cell 10
   have y11:=HCz.out.blk.cell 11
   have f11:=HCz.out.blk.frozen 11
   simp only [Ja,Jb,Jc] at y9 y11
   have b9:=HCz.out.blk.set_ 11 (.int .i64 (now+s.wait*2 ^ s.fails))
   simp only [Jd,Je,Jf] at b9
   have ho9:Only g wz (wz.drew.setCell ⟨g,11,none⟩ (.int .i64 (now+s.wait*2 ^ s.fails))):=(Only.refl g wz).drew.setCell (.inl rfl) _
   have HC9:=Jh (HCz.out.put ho9 (s':={ s with asked:=false,writes:=false,fails:=s.fails+1,due:=now+s.wait*2 ^ s.fails,st:=s.st,er:=s.er }) b9 rfl (HCz.out.read_ ho9) (HCz.out.next_ ho9))
   have HO9:=Jh (HOz.out.trans ho9)
   clear b9 ho9
   go_wp2_with fail
   go_still_tail 15,(by kernel_rfl)
   go_wp2
   go_ret
   obtain ⟨rfl,rfl⟩:=HS9.out
   exact ⟨rfl,_,_,HC9.out,HO9.out⟩
end
section
variable {base g:Nat} {s:Cst} {q:Pd} {pr pn:Pl}
end
section
variable {base g:Nat} {s:Cst} {q:Pd} {pr pn:Pl}
end
section
variable {base g:Nat} {s:Cst} {q:Pd} {pr pn:Pl}
end
structure Cin (s:Cst):Prop where
 g:Cgd s
 right:s.writes=true→rightB s.next=true
theorem gd_of_right {m:Md} (h:rightB m=true) (hk:∀ x∈m.E,x.Ok) (hs:Short m.E):Gd m:=⟨hs,hk,by have:=(right_f h).lenE;omega,by
 have:=srt_len (l:=m.M) (a:=1) (b:=64) (right_f h).srtM (fun x hx=>(mk_in ((right_f h).mkM x hx)).1) (by omega)
 omega,by
 have:=srt_len (l:=m.O) (a:=1) (b:=8) (right_f h).srtO (fun x hx=>(ow_in ((right_f h).owO x hx)).1) (by omega)
 omega⟩
theorem app_right {m:Md} {d:Ed} (h:appE m d=0):rightB (appM m d)=true:=by
 rw [appM_ok h]
 exact right_iff.2 ((appE_zero.1 h).1.f.right (appE_zero.1 h).2)
theorem app_gd {m:Md} {d:Ed} (h:appE m d=0) (hm:Gd m) (hd:Ge d):Gd (appM m d):=by
 refine gd_of_right (app_right h) (fun x hx=>?_) (fun x hx=>?_)
 all_goals rw [appM_ok h] at hx;rcases (ents_mem.1 hx).1 with h1|h1
 ·exact hd.ok x h1
 ·exact hm.ok x h1.1
 ·exact hd.short x h1
 ·exact hm.short x h1.1
theorem en_part {x:En} (h:enB x=true):x.part.size≤100000:=by
 unfold enB at h
 simp only [Bool.and_eq_true] at h
 have:=parB_len h.1.1.1.1.1.1.1.1.1.1
 omega
theorem right_short {m:Md} (h:rightB m=true):Short m.E:=fun x hx=>en_part ((right_f h).enE x hx)
theorem decT_two (t:List UInt8):((decT t).2=0→rightB (decT t).1=true)∧((decT t).2≠0→(decT t).1=nilM):=by
 unfold decT
 rcases Nu.curBytes t 0 0 5 with ⟨hd,k,e⟩
 dsimp only
 rcases rdM t k e with ⟨m,k',e'⟩
 dsimp only
 split
 ·rename_i h;exact ⟨fun _=>h.2.2,fun h=>absurd rfl h⟩
 ·exact ⟨fun h=>absurd h (by decide),fun _=>rfl⟩
theorem decB_two (b:List UInt8):((decB b).2=0→rightB (decB b).1=true)∧((decB b).2≠0→(decB b).1=nilM):=by
 unfold decB
 split
 ·rename_i h
  refine ⟨fun h2=>?_,fun _=>rfl⟩
  have h3:((Cr.copen b).2:Int)=0:=h2
  omega
 ·exact decT_two _
theorem decB_right {b:List UInt8} (h:(decB b).2=0):rightB (decB b).1=true:=(decB_two b).1 h
theorem decB_no {b:List UInt8} (h:(decB b).2≠0):(decB b).1=nilM:=(decB_two b).2 h
theorem dec_gd (b:List UInt8):Gd (decB b).1:=by
 by_cases h:(decB b).2=0
 ·exact gd_of_right (decB_right h) (dec_good b).2.2.2 (right_short (decB_right h))
 ·have h2:=dec_good b
  exact ⟨by rw [decB_no h];exact fun x hx=>(by cases hx),h2.2.2.2,by omega,by omega,by omega⟩
theorem Cin.saw {s:Cst} (h:Cin s) (h0:s.st=0) (ha:s.asked=false) (hw:s.writes=false) {m:Md} (hm:Gd m) (ver:Int):Cin (sawS s m ver):=by
 obtain ⟨g,r⟩:=h
 unfold sawS
 split
 ·exact ⟨⟨g.ge,hm,g.next,g.tries,g.wait,fun h=>absurd h (by simp),fun h=>(by rw [show s.asked=true from h] at ha;cases ha),fun _=>rfl⟩,r⟩
 split
 ·exact ⟨⟨g.ge,hm,g.next,g.tries,g.wait,fun h=>absurd h (by simp),fun h=>(by rw [show s.asked=true from h] at ha;cases ha),fun h=>absurd h (by simp)⟩,r⟩
 ·rename_i h1 h2
  have h3:appE m s.d=0:=Classical.byContradiction fun h=>h2 h
  exact ⟨⟨g.ge,hm,app_gd h3 hm g.ge,g.tries,g.wait,g.fails,g.asked,g.er⟩,fun _=>app_right h3⟩
theorem Cin.take {s:Cst} (h:Cin s) (ha:s.asked=true) (err:Int) (data:List UInt8) (ver now:Int):Cin (takeS s err data ver now):=by
 have h0:=h.g.asked ha
 have he:=h.g.er h0
 have hf:=h.g.fails h0
 obtain ⟨g,r⟩:=h
 have hB:Cin { s with asked:=false,writes:=false }:=⟨⟨g.ge,g.read,g.next,g.tries,g.wait,g.fails,fun h=>(by cases h),g.er⟩,fun h=>(by cases h)⟩
 unfold takeS
 split
 ·refine ⟨⟨g.ge,g.read,g.next,g.tries,g.wait,fun h=>?_,fun h=>(by cases h),fun h=>?_⟩,fun h=>(by cases h)⟩
  ·dsimp only at h ⊢
   split at h
   ·cases h
   ·push_cast;omega
  ·dsimp only at h ⊢
   split at h
   ·cases h
   ·rw [if_neg (by assumption)];exact he
 split
 ·split
  ·exact ⟨⟨g.ge,g.next,g.next,g.tries,g.wait,fun h=>absurd h (by simp),fun h=>(by cases h),fun _=>rfl⟩,fun h=>(by cases h)⟩
  split
  ·exact hB
  ·exact ⟨⟨g.ge,g.read,g.next,g.tries,g.wait,fun h=>absurd h (by simp),fun h=>(by cases h),fun h=>absurd h (by simp)⟩,fun h=>(by cases h)⟩
 split
 ·exact hB.saw h0 rfl rfl Gd.zero 0
 split
 ·exact ⟨⟨g.ge,g.read,g.next,g.tries,g.wait,fun h=>absurd h (by simp),fun h=>(by cases h),fun h=>absurd h (by simp)⟩,fun h=>(by cases h)⟩
 split
 ·exact ⟨⟨g.ge,g.read,g.next,g.tries,g.wait,fun h=>absurd h (by simp),fun h=>(by cases h),fun h=>absurd h (by simp)⟩,fun h=>(by cases h)⟩
 ·exact hB.saw h0 rfl rfl (dec_gd data) ver
set_option maxRecDepth 100000 in
set_option maxHeartbeats 3200000 in
theorem cfew_calls (w:World) {B:Nat} {x:Ed} {q:Pd} (h:Edi w B x q) (hB:B≤w.heap.size) :
  Calls Tryz.prog 8 #[edV x q] w fun e w'=>∃ b,e=.returned (.bool b)∧(b=true→Ge x)∧Below w.heap.size w w':=by
 have hbk:=Blk.new w 28 #[.slice q.AA x.add.length q.cA,.slice q.AD x.drop.length q.cD,.slice q.AM x.marks.length q.cM,.int .i64 x.cut,.int .i64 x.fence,.int .i64 x.by_.agent,.int .i64 x.by_.life,.int .i64 x.by_.count]
 have z0:=hbk.cell 0
 have z1:=hbk.cell 1
 have z2:=hbk.cell 2
 simp only [Ja,Jb,Jc] at z0 z1 z2
 have HB1:Hid (Below w.heap.size w (w.alloc (.cells #[.slice q.AA x.add.length q.cA,.slice q.AD x.drop.length q.cD,.slice q.AM x.marks.length q.cM,.int .i64 x.cut,.int .i64 x.fence,.int .i64 x.by_.agent,.int .i64 x.by_.life,.int .i64 x.by_.count] 28))):=Jh ((Below.refl _ _).alloc (Nat.le_refl _) _)
 have HE:=Jh h
 have la:=h.la
 clear h hbk
 by_cases h1:30<x.add.length
 ·have d1:decide ((30:Int)<(x.add.length:Int))=true:=dct (by omega)
  go_enter Tryz.func8,Tryz.ntmps8
  go_wp2
  go_ret
  exact ⟨false,rfl,fun h=>(by cases h),HB1.out⟩
 have d1:decide ((30:Int)<(x.add.length:Int))=false:=dcf (by omega)
 by_cases h2:30<x.drop.length
 ·have d2:decide ((30:Int)<(x.drop.length:Int))=true:=dct (by omega)
  go_enter Tryz.func8,Tryz.ntmps8
  go_wp2
  go_ret
  exact ⟨false,rfl,fun h=>(by cases h),HB1.out⟩
 have d2:decide ((30:Int)<(x.drop.length:Int))=false:=dcf (by omega)
 by_cases h3:70<x.marks.length
 ·have d3:decide ((70:Int)<(x.marks.length:Int))=true:=dct (by omega)
  go_enter Tryz.func8,Tryz.ntmps8
  go_wp2
  go_ret
  exact ⟨false,rfl,fun h=>(by cases h),HB1.out⟩
 have d3:decide ((70:Int)<(x.marks.length:Int))=false:=dcf (by omega)
 have HT:Hid ((∀ k,k<x.add.length→(gt x.add k).part.size≤100000)→Ge x):=Jh fun h=>⟨fun y hy=>(by obtain ⟨i,hi,rfl⟩:=mem_gt hy;exact h i hi),HE.out.ok,HE.out.okd,by omega,by omega,by omega⟩
 have HP0:Hid (∀ k,k<0→(gt x.add k).part.size≤100000):=Jh fun k hk=>absurd hk (Nat.not_lt_zero k)
 have l1:x.add.length≤30:=by omega
 clear h1 h2 h3
 go_enter Tryz.func8,Tryz.ntmps8
 go_wp2
 go_loopw [24] (fun vi wr=>∃ i:Nat,i≤x.add.length∧vi=.int .i64 (i:Int)∧Hid (∀ k,k<i→(gt x.add k).part.size≤100000)∧Hid (Below w.heap.size w wr)) (fun vi _=>x.add.length-(intOf vi).toNat)
 case atStart=>exact ⟨0,Nat.zero_le _,rfl,HP0,HB1⟩
 case round =>
  clear HP0
  obtain ⟨i,hi,rfl,HP,HBr⟩:=hrel
  clear z0 z1 z2
  by_cases hlt:i<x.add.length
  ·obtain ⟨b,off,hA,hbB,hc⟩:=row_at ecs_len ((HE.out.below (HBr.out.mono hB)).ra) (by omega)
   have hci:=hc i hlt
   have HN:Hid ((gt x.add i).part.size≤100000→∀ k,k<i+1→(gt x.add k).part.size≤100000):=Jh fun h k hk=>by
    by_cases e:k=i
    ·rw [e];exact h
    ·exact HP.out k (by omega)
   generalize gt x.add i=y at *
   have p0:=hci 0 _ rfl
   have p1:=hci 1 _ rfl
   have p2:=hci 2 _ rfl
   have p3:=hci 3 _ rfl
   have p4:=hci 4 _ rfl
   have p5:=hci 5 _ rfl
   have p6:=hci 6 _ rfl
   have p7:=hci 7 _ rfl
   have p8:=hci 8 _ rfl
   rw [Nat.add_zero] at p0
   clear hc hci
   have i0:(0:Int)≤(i:Int):=by omega
   have i9:(i:Int)<(x.add.length:Int):=by omega
   have hsz:=HBr.out.size
   have HB2:Hid (Below w.heap.size w (wr.alloc (.cells #[.string y.key,.int .i64 y.window,.string y.part,.int .i64 y.first,.int .i64 y.last,.int .i64 y.rows,.int .i64 y.size,.int .u32 y.sum,.int .i64 y.born] 85))):=Jh (HBr.out.alloc hsz _)
   rw [hA]
   by_cases k1:100<y.key.size
   ·have e1:decide ((100:Int)<(y.key.size:Int))=true:=dct (by omega)
    go_wp2
    go_ret
    exact ⟨false,rfl,fun h=>(by cases h),HB2.out⟩
   have e1:decide ((100:Int)<(y.key.size:Int))=false:=dcf (by omega)
   by_cases k2:600<y.part.size
   ·have e2:decide ((600:Int)<(y.part.size:Int))=true:=dct (by omega)
    go_wp2
    go_ret
    exact ⟨false,rfl,fun h=>(by cases h),HB2.out⟩
   have e2:decide ((600:Int)<(y.part.size:Int))=false:=dcf (by omega)
   have HN2:=Jh (HN.out (by omega))
   clear HN HP
   go_wp2
   go_roundw
   case rel=>exact ⟨i+1,by omega,by go_num,HN2,HB2⟩
   case measure=>simp [intOf];omega
  ·obtain rfl:i=x.add.length:=by omega
   go_wp2
   go_ret
   exact ⟨true,rfl,fun _=>HT.out HP.out,HBr.out⟩
def liveE:Ed:=⟨[],[],[],0,0,⟨1,1,1⟩⟩
def liveP:Pd:=⟨none,0,none,0,none,0⟩
theorem liveEdi (w:World):Edi w 0 liveE liveP:=⟨Reads.none_,Reads.none_,Reads.none_,Nat.zero_le _,Nat.zero_le _,Nat.zero_le _,Nat.zero_le _,Nat.zero_le _,Nat.zero_le _,fun x hx=>(by cases hx),fun x hx=>(by cases hx)⟩
theorem liveGe:Ge liveE:=⟨fun x hx=>(by cases hx),fun x hx=>(by cases hx),fun x hx=>(by cases hx),by decide,by decide,by decide⟩
set_option maxRecDepth 100000 in
set_option maxHeartbeats 3200000 in
theorem clives_calls (w:World):Calls Tryz.prog 7 #[] w fun e w'=>e=.returned (.bool true)∧Below w.heap.size w w':=by
 have HN:=Jh (newP_calls w (liveEdi w) (Nat.zero_le _) liveGe 2 1 (by omega) (by omega) (by omega) (by omega))
 go_enter Tryz.func7,Tryz.ntmps7
 go_wp2_with fail
 refine HN.out.mono ?_
 rintro e w1 ⟨g,V,rfl,hbk,hb1⟩
 have hg:=hbk.low
 have HX:=Jh (next_get w1 hbk 0 rfl rfl)
 clear HN hbk
 go_wp2_with fail
 refine HX.out.mono ?_
 rintro e w2 ⟨rfl,hbk2,ho2⟩
 have hb2:Below w.heap.size w w2:=hb1.trans (ho2.below hg hb1.size)
 have hbk3:=hbk2.below ((Below.refl _ _).alloc (Nat.le_refl _) (.cells getCall 35))
 have HS:=Jh (stateP_calls _ hbk3)
 clear hbk2 hbk3 HX ho2
 go_wp2_with fail
 refine HS.out.mono ?_
 rintro e w3 ⟨rfl,hb3⟩
 have hc:=(Blk.new w2 35 getCall).below hb3 (by simp)
 have c0:=hc.cell 0
 have c1:=hc.cell 1
 simp only [Ja,Jb,Jc] at c0 c1
 have HB3:Hid (Below w.heap.size w w3):=Jh ((hb2.alloc hb2.size _).trans (hb3.mono (by have:=hb2.size;simp;omega)))
 clear hc hb3 hb2 HS
 go_wp2
 go_ret
 exact ⟨rfl,HB3.out⟩
abbrev callC (k:Int) (key:ByteArray) (A:Option Addr) (n c:Nat) (ver:Int):Array Value:=#[.int .i64 k,.string key,.slice A n c,.int .i64 ver,.int .i64 0,.int .i64 0,.int .i64 0]
abbrev manK:ByteArray:=⟨#[109,97,110,105,102,101,115,116]⟩
end Go.Proofs.YtibnehaibgbliaaGreat.Mf
