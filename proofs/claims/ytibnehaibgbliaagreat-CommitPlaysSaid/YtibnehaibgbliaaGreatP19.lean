/- Laws for the row's walk. -/
import Derived.Test.YtibnehaibgbliaaGreatP18
set_option linter.unusedVariables false
set_option linter.unusedSimpArgs false
open Go.Lib renaming hid → Jh
open List renaming getElem?_toArray → Ja, getElem?_cons_zero → Jb, getElem?_cons_succ → Jc, setIfInBounds_toArray → Jd, set_cons_zero → Je, set_cons_succ → Jf
namespace Go.Proofs.YtibnehaibgbliaaGreat.Mf
open Go.RowKit Go.Proofs.YtibnehaibgbliaaGreat
def DecC:Prop:=∀ (w:World) {B n c:Nat} {A:Option Addr} {s:List UInt8},Bytes w B A n s→B≤w.heap.size→n≤c→n≤1000000→Sh w→Calls Tryz.prog 33 #[.slice A n c] w (RetAp w (decB s).1 (decB s).2)
def qcw (w:World) (base g:Nat) (s':Cst) (q:Pd) (e:Ending) (w':World):Prop:=e=.returned (.int .i64 0)∧∃ pr pn,CmAt w' base g s' q pr pn∧Only g w w'
section
variable {base g:Nat} {s:Cst} {q:Pd} {pr pn:Pl}
set_option maxRecDepth 100000 in
set_option maxHeartbeats 3200000 in
theorem take_no (w:World) (h:CmAt w base g s q pr pn) (ha:s.asked=false) (r0 r1 r2 r3 r4 r5 r6:Value) (now:Int) :
  Calls Tryz.prog 11 #[.pointer (some ⟨g,0,none⟩),.agg #[r0,r1,r2,r3,r4,r5,r6],.int .i64 now] w fun e w'=>e=.returned (.int .i64 1)∧Below w.heap.size w w':=by
 have h2:=h.blk.alloc (.cells #[r0,r1,r2,r3,r4,r5,r6] 42)
 have z0:=h2.cell 13
 simp only [Ja,Jb,Jc] at z0
 rw [ha] at z0
 clear h h2
 go_enter Tryz.func11,Tryz.ntmps11
 go_wp2
 go_ret
 exact ⟨rfl,(Below.refl _ _).alloc (Nat.le_refl _) _⟩
abbrev repA (err:Int) (A:Option Addr) (n c:Nat) (ver:Int) (r3 r4 r5 r6:Value):Array Value:=#[.int .i64 err,.slice A n c,.int .i64 ver,r3,r4,r5,r6]
set_option maxRecDepth 100000 in
set_option maxHeartbeats 3200000 in
theorem take_done (w:World) (h:CmAt w base g s q pr pn) (ha:s.asked=true) (hw:s.writes=true) (A:Option Addr) (n c:Nat) (ver:Int) (r3 r4 r5 r6:Value) (now:Int) (err:Int) (he:Hid (err=0)) :
  Calls Tryz.prog 11 #[.pointer (some ⟨g,0,none⟩),.agg (repA err A n c ver r3 r4 r5 r6),.int .i64 now] w (qcw w base g ({ s with asked:=false,writes:=false,read:=s.next,st:=1,er:=0 }) q):=by
 have h2:=h.blk.alloc (.cells (repA err A n c ver r3 r4 r5 r6) 42)
 have z0:=h2.cell 13
 have z2:=(h2.set_ 13 (.bool false)).cell 14
 have f0:=h2.frozen 13
 have f1:=h2.frozen 14
 have b3:=(h2.set_ 13 (.bool false)).set_ 14 (.bool false)
 have f2:=(h2.set_ 13 (.bool false)).frozen 14
 simp only [Jd,Je,Jf] at b3 z2
 simp only [Ja,Jb,Jc] at z0 z2
 rw [ha] at z0
 rw [hw] at z2
 have hne:g≠w.heap.size:=by have:=h.blk.lt;omega
 have hr:=((Blk.new w 42 (repA err A n c ver r3 r4 r5 r6)).far (p:=⟨g,13,none⟩) (Ne.symm hne) (.bool false)).far (p:=⟨g,14,none⟩) (Ne.symm hne) (.bool false)
 have ho:Only g w (((w.alloc (.cells (repA err A n c ver r3 r4 r5 r6) 42)).setCell ⟨g,13,none⟩ (.bool false)).setCell ⟨g,14,none⟩ (.bool false)):=(((Only.refl g w).alloc _).setCell (.inl rfl) _).setCell (.inl rfl) _
 have HC:=Jh (h.put ho (s':={ s with asked:=false,writes:=false }) b3 rfl (h.read_ ho) (h.next_ ho))
 have HR:=Jh hr
 have HO:=Jh ho
 have HN:=Jh hne
 clear h h2 b3 hr hne ho
 go_enter Tryz.func11,Tryz.ntmps11
 go_upto_region 10 with fail
 obtain ⟨gr,hgr⟩:∃ gr,gr=w.heap.size:=⟨_,rfl⟩
 rw [← hgr] at HR HN ⊢
 clear hgr z0 z2 f0 f1 f2
 generalize ((w.alloc (.cells (repA err A n c ver r3 r4 r5 r6) 42)).setCell ⟨g,13,none⟩ (.bool false)).setCell ⟨g,14,none⟩ (.bool false)=w3 at *
 have r0:=HR.out.cell 0
 simp only [Ja,Jb,Jc] at r0
 obtain rfl:=he.out
 have f15:=HC.out.blk.frozen 15
 have y15:=HC.out.blk.cell 15
 have f16:=HC.out.blk.frozen 16
 have y16:=HC.out.blk.cell 16
 have f17:=HC.out.blk.frozen 17
 have y17:=HC.out.blk.cell 17
 have f18:=HC.out.blk.frozen 18
 have y18:=HC.out.blk.cell 18
 have f19:=HC.out.blk.frozen 19
 have y19:=HC.out.blk.cell 19
 have f20:=HC.out.blk.frozen 20
 have y20:=HC.out.blk.cell 20
 have f21:=HC.out.blk.frozen 21
 have y21:=HC.out.blk.cell 21
 have f22:=HC.out.blk.frozen 22
 have y22:=HC.out.blk.cell 22
 have f23:=HC.out.blk.frozen 23
 have y23:=HC.out.blk.cell 23
 have f24:=HC.out.blk.frozen 24
 have y24:=HC.out.blk.cell 24
 have f25:=HC.out.blk.frozen 25
 have y25:=HC.out.blk.cell 25
 have f26:=HC.out.blk.frozen 26
 have y26:=HC.out.blk.cell 26
 simp only [Ja,Jb,Jc] at y15 y16 y17 y18 y19 y20 y21 y22 y23 y24 y25 y26
 have b9:=((((((HC.out.blk.set_ 15 (.int .i64 s.next.gen)).set_ 16 (.int .i64 s.next.cut)).set_ 17 (.int .i64 s.next.fence)).set_ 18 (.slice pn.AE s.next.E.length pn.cE)).set_ 19 (.slice pn.AM s.next.M.length pn.cM)).set_ 20 (.slice pn.AO s.next.O.length pn.cO))
 simp only [Jd,Je,Jf] at b9
 have ho9:Only g w3 ((((((w3.setCell ⟨g,15,none⟩ (.int .i64 s.next.gen)).setCell ⟨g,16,none⟩ (.int .i64 s.next.cut)).setCell ⟨g,17,none⟩ (.int .i64 s.next.fence)).setCell ⟨g,18,none⟩ (.slice pn.AE s.next.E.length pn.cE)).setCell ⟨g,19,none⟩ (.slice pn.AM s.next.M.length pn.cM)).setCell ⟨g,20,none⟩ (.slice pn.AO s.next.O.length pn.cO)):=((((((Only.refl g w3).setCell (p:=⟨g,15,none⟩) (.inl rfl) (.int .i64 s.next.gen)).setCell (p:=⟨g,16,none⟩) (.inl rfl) (.int .i64 s.next.cut)).setCell (p:=⟨g,17,none⟩) (.inl rfl) (.int .i64 s.next.fence)).setCell (p:=⟨g,18,none⟩) (.inl rfl) (.slice pn.AE s.next.E.length pn.cE)).setCell (p:=⟨g,19,none⟩) (.inl rfl) (.slice pn.AM s.next.M.length pn.cM)).setCell (p:=⟨g,20,none⟩) (.inl rfl) (.slice pn.AO s.next.O.length pn.cO)
 have HC9:=Jh (HC.out.put ho9 (s':={ s with asked:=false,writes:=false,read:=s.next }) (pr':=pn) (pn':=pn) b9 rfl (HC.out.next_ ho9) (HC.out.next_ ho9))
 have HO9:=Jh (HO.out.trans ho9)
 clear b9 ho9
 go_upto_region 17 with fail
 generalize ((((((w3.setCell ⟨g,15,none⟩ (.int .i64 s.next.gen)).setCell ⟨g,16,none⟩ (.int .i64 s.next.cut)).setCell ⟨g,17,none⟩ (.int .i64 s.next.fence)).setCell ⟨g,18,none⟩ (.slice pn.AE s.next.E.length pn.cE)).setCell ⟨g,19,none⟩ (.slice pn.AM s.next.M.length pn.cM)).setCell ⟨g,20,none⟩ (.slice pn.AO s.next.O.length pn.cO))=w4 at *
 clear f15 f16 f17 f18 f19 f20 y15 y16 y17 y18 y19 y20 y21 y22 y23 y24 y25 y26 r0
 have HEn:=Jh (end_calls w4 HC9.out.blk (.int .i64 s.st) (.int .i64 s.er) rfl rfl 1 0)
 have b6:=((HC9.out.blk).set_ 27 (.int .i64 1)).set_ 28 (.int .i64 0)
 simp only [Jd,Je,Jf] at b6
 have ho6:Only g w4 ((w4.setCell ⟨g,27,none⟩ (.int .i64 1)).setCell ⟨g,28,none⟩ (.int .i64 0)):=((Only.refl g w4).setCell (.inl rfl) _).setCell (.inl rfl) _
 have HC6:=Jh (HC9.out.put ho6 (s':={ s with asked:=false,writes:=false,read:=s.next,st:=1,er:=0 }) b6 rfl (HC9.out.read_ ho6) (HC9.out.next_ ho6))
 have HO6:=Jh (HO9.out.trans ho6)
 clear b6 ho6
 go_wp2_with fail
 refine HEn.out.mono ?_
 rintro en w6 ⟨rfl,rfl⟩
 go_wp2
 go_ret
 exact ⟨rfl,_,_,HC6.out,HO6.out⟩
set_option maxRecDepth 100000 in
set_option maxHeartbeats 3200000 in
theorem take_vers (w:World) (h:CmAt w base g s q pr pn) (ha:s.asked=true) (hw:s.writes=true) (A:Option Addr) (n c:Nat) (ver:Int) (r3 r4 r5 r6:Value) (now:Int) (err:Int) (he:Hid (err=8)) :
  Calls Tryz.prog 11 #[.pointer (some ⟨g,0,none⟩),.agg (repA err A n c ver r3 r4 r5 r6),.int .i64 now] w (qcw w base g ({ s with asked:=false,writes:=false }) q):=by
 have h2:=h.blk.alloc (.cells (repA err A n c ver r3 r4 r5 r6) 42)
 have z0:=h2.cell 13
 have z2:=(h2.set_ 13 (.bool false)).cell 14
 have f0:=h2.frozen 13
 have f1:=h2.frozen 14
 have b3:=(h2.set_ 13 (.bool false)).set_ 14 (.bool false)
 have f2:=(h2.set_ 13 (.bool false)).frozen 14
 simp only [Jd,Je,Jf] at b3 z2
 simp only [Ja,Jb,Jc] at z0 z2
 rw [ha] at z0
 rw [hw] at z2
 have hne:g≠w.heap.size:=by have:=h.blk.lt;omega
 have hr:=((Blk.new w 42 (repA err A n c ver r3 r4 r5 r6)).far (p:=⟨g,13,none⟩) (Ne.symm hne) (.bool false)).far (p:=⟨g,14,none⟩) (Ne.symm hne) (.bool false)
 have ho:Only g w (((w.alloc (.cells (repA err A n c ver r3 r4 r5 r6) 42)).setCell ⟨g,13,none⟩ (.bool false)).setCell ⟨g,14,none⟩ (.bool false)):=(((Only.refl g w).alloc _).setCell (.inl rfl) _).setCell (.inl rfl) _
 have HC:=Jh (h.put ho (s':={ s with asked:=false,writes:=false }) b3 rfl (h.read_ ho) (h.next_ ho))
 have HR:=Jh hr
 have HO:=Jh ho
 have HN:=Jh hne
 clear h h2 b3 hr hne ho
 go_enter Tryz.func11,Tryz.ntmps11
 go_upto_region 10 with fail
 obtain ⟨gr,hgr⟩:∃ gr,gr=w.heap.size:=⟨_,rfl⟩
 rw [← hgr] at HR HN ⊢
 clear hgr z0 z2 f0 f1 f2
 generalize ((w.alloc (.cells (repA err A n c ver r3 r4 r5 r6) 42)).setCell ⟨g,13,none⟩ (.bool false)).setCell ⟨g,14,none⟩ (.bool false)=w3 at *
 have r0:=HR.out.cell 0
 simp only [Ja,Jb,Jc] at r0
 obtain rfl:=he.out
 go_wp2
 go_ret
 exact ⟨rfl,_,_,HC.out,HO.out⟩
set_option maxRecDepth 100000 in
set_option maxHeartbeats 3200000 in
theorem take_wfail (w:World) (h:CmAt w base g s q pr pn) (ha:s.asked=true) (hw:s.writes=true) (A:Option Addr) (n c:Nat) (ver:Int) (r3 r4 r5 r6:Value) (now:Int) (err:Int) (h10:err≠10) (h9:err≠9) (h8:err≠8) (h0:err≠0) :
  Calls Tryz.prog 11 #[.pointer (some ⟨g,0,none⟩),.agg (repA err A n c ver r3 r4 r5 r6),.int .i64 now] w (qcw w base g ({ s with asked:=false,writes:=false,st:=3,er:=err }) q):=by
 have h2:=h.blk.alloc (.cells (repA err A n c ver r3 r4 r5 r6) 42)
 have z0:=h2.cell 13
 have z2:=(h2.set_ 13 (.bool false)).cell 14
 have f0:=h2.frozen 13
 have f1:=h2.frozen 14
 have b3:=(h2.set_ 13 (.bool false)).set_ 14 (.bool false)
 have f2:=(h2.set_ 13 (.bool false)).frozen 14
 simp only [Jd,Je,Jf] at b3 z2
 simp only [Ja,Jb,Jc] at z0 z2
 rw [ha] at z0
 rw [hw] at z2
 have hne:g≠w.heap.size:=by have:=h.blk.lt;omega
 have hr:=((Blk.new w 42 (repA err A n c ver r3 r4 r5 r6)).far (p:=⟨g,13,none⟩) (Ne.symm hne) (.bool false)).far (p:=⟨g,14,none⟩) (Ne.symm hne) (.bool false)
 have ho:Only g w (((w.alloc (.cells (repA err A n c ver r3 r4 r5 r6) 42)).setCell ⟨g,13,none⟩ (.bool false)).setCell ⟨g,14,none⟩ (.bool false)):=(((Only.refl g w).alloc _).setCell (.inl rfl) _).setCell (.inl rfl) _
 have HC:=Jh (h.put ho (s':={ s with asked:=false,writes:=false }) b3 rfl (h.read_ ho) (h.next_ ho))
 have HR:=Jh hr
 have HO:=Jh ho
 have HN:=Jh hne
 clear h h2 b3 hr hne ho
 go_enter Tryz.func11,Tryz.ntmps11
 go_upto_region 10 with fail
 obtain ⟨gr,hgr⟩:∃ gr,gr=w.heap.size:=⟨_,rfl⟩
 rw [← hgr] at HR HN ⊢
 clear hgr z0 z2 f0 f1 f2
 generalize ((w.alloc (.cells (repA err A n c ver r3 r4 r5 r6) 42)).setCell ⟨g,13,none⟩ (.bool false)).setCell ⟨g,14,none⟩ (.bool false)=w3 at *
 have r0:=HR.out.cell 0
 simp only [Ja,Jb,Jc] at r0
 have e10:(err == 10)=false:=eqf h10
 have e9:(err == 9)=false:=eqf h9
 have e8:(err == 8)=false:=eqf h8
 have e0:(err == 0)=false:=eqf h0
 have n0:(err != 0)=true:=net h0
 have HEn:=Jh (end_calls w3 HC.out.blk (.int .i64 s.st) (.int .i64 s.er) rfl rfl 3 err)
 have b6:=((HC.out.blk).set_ 27 (.int .i64 3)).set_ 28 (.int .i64 err)
 simp only [Jd,Je,Jf] at b6
 have ho6:Only g w3 ((w3.setCell ⟨g,27,none⟩ (.int .i64 3)).setCell ⟨g,28,none⟩ (.int .i64 err)):=((Only.refl g w3).setCell (.inl rfl) _).setCell (.inl rfl) _
 have HC6:=Jh (HC.out.put ho6 (s':={ s with asked:=false,writes:=false,st:=3,er:=err }) b6 rfl (HC.out.read_ ho6) (HC.out.next_ ho6))
 have HO6:=Jh (HO.out.trans ho6)
 clear b6 ho6
 go_wp2_with fail
 refine HEn.out.mono ?_
 rintro en w6 ⟨rfl,rfl⟩
 go_wp2
 go_ret
 exact ⟨rfl,_,_,HC6.out,HO6.out⟩
set_option maxRecDepth 100000 in
set_option maxHeartbeats 3200000 in
theorem take_rfail (w:World) (h:CmAt w base g s q pr pn) (ha:s.asked=true) (hw:s.writes=false) (A:Option Addr) (n c:Nat) (ver:Int) (r3 r4 r5 r6:Value) (now:Int) (err:Int) (h10:err≠10) (h9:err≠9) (h7:err≠7) (h0:err≠0) :
  Calls Tryz.prog 11 #[.pointer (some ⟨g,0,none⟩),.agg (repA err A n c ver r3 r4 r5 r6),.int .i64 now] w (qcw w base g ({ s with asked:=false,writes:=false,st:=3,er:=err }) q):=by
 have h2:=h.blk.alloc (.cells (repA err A n c ver r3 r4 r5 r6) 42)
 have z0:=h2.cell 13
 have z2:=(h2.set_ 13 (.bool false)).cell 14
 have f0:=h2.frozen 13
 have f1:=h2.frozen 14
 have b3:=(h2.set_ 13 (.bool false)).set_ 14 (.bool false)
 have f2:=(h2.set_ 13 (.bool false)).frozen 14
 simp only [Jd,Je,Jf] at b3 z2
 simp only [Ja,Jb,Jc] at z0 z2
 rw [ha] at z0
 rw [hw] at z2
 have hne:g≠w.heap.size:=by have:=h.blk.lt;omega
 have hr:=((Blk.new w 42 (repA err A n c ver r3 r4 r5 r6)).far (p:=⟨g,13,none⟩) (Ne.symm hne) (.bool false)).far (p:=⟨g,14,none⟩) (Ne.symm hne) (.bool false)
 have ho:Only g w (((w.alloc (.cells (repA err A n c ver r3 r4 r5 r6) 42)).setCell ⟨g,13,none⟩ (.bool false)).setCell ⟨g,14,none⟩ (.bool false)):=(((Only.refl g w).alloc _).setCell (.inl rfl) _).setCell (.inl rfl) _
 have HC:=Jh (h.put ho (s':={ s with asked:=false,writes:=false }) b3 rfl (h.read_ ho) (h.next_ ho))
 have HR:=Jh hr
 have HO:=Jh ho
 have HN:=Jh hne
 clear h h2 b3 hr hne ho
 go_enter Tryz.func11,Tryz.ntmps11
 go_upto_region 10 with fail
 obtain ⟨gr,hgr⟩:∃ gr,gr=w.heap.size:=⟨_,rfl⟩
 rw [← hgr] at HR HN ⊢
 clear hgr z0 z2 f0 f1 f2
 generalize ((w.alloc (.cells (repA err A n c ver r3 r4 r5 r6) 42)).setCell ⟨g,13,none⟩ (.bool false)).setCell ⟨g,14,none⟩ (.bool false)=w3 at *
 have r0:=HR.out.cell 0
 simp only [Ja,Jb,Jc] at r0
 have e10:(err == 10)=false:=eqf h10
 have e9:(err == 9)=false:=eqf h9
 have e7:(err == 7)=false:=eqf h7
 have n0:(err != 0)=true:=net h0
 have HEn:=Jh (end_calls w3 HC.out.blk (.int .i64 s.st) (.int .i64 s.er) rfl rfl 3 err)
 have b6:=((HC.out.blk).set_ 27 (.int .i64 3)).set_ 28 (.int .i64 err)
 simp only [Jd,Je,Jf] at b6
 have ho6:Only g w3 ((w3.setCell ⟨g,27,none⟩ (.int .i64 3)).setCell ⟨g,28,none⟩ (.int .i64 err)):=((Only.refl g w3).setCell (.inl rfl) _).setCell (.inl rfl) _
 have HC6:=Jh (HC.out.put ho6 (s':={ s with asked:=false,writes:=false,st:=3,er:=err }) b6 rfl (HC.out.read_ ho6) (HC.out.next_ ho6))
 have HO6:=Jh (HO.out.trans ho6)
 clear b6 ho6
 go_wp2_with fail
 refine HEn.out.mono ?_
 rintro en w6 ⟨rfl,rfl⟩
 go_wp2
 go_ret
 exact ⟨rfl,_,_,HC6.out,HO6.out⟩
set_option maxRecDepth 100000 in
set_option maxHeartbeats 3200000 in
theorem take_none (hap:ApplyC) (hb0:0<base) (hge:Ge s.d) (w:World) (hsh:Sh w) (h:CmAt w base g s q pr pn) (ha:s.asked=true) (hw:s.writes=false) (A:Option Addr) (n c:Nat) (ver:Int) (r3 r4 r5 r6:Value) (now:Int) (err:Int) (he:Hid (err=7)) :
  Calls Tryz.prog 11 #[.pointer (some ⟨g,0,none⟩),.agg (repA err A n c ver r3 r4 r5 r6),.int .i64 now] w (qcw w base g (sawS { s with asked:=false,writes:=false } zeroM 0) q):=by
 have h2:=h.blk.alloc (.cells (repA err A n c ver r3 r4 r5 r6) 42)
 have z0:=h2.cell 13
 have z2:=(h2.set_ 13 (.bool false)).cell 14
 have f0:=h2.frozen 13
 have f1:=h2.frozen 14
 have b3:=(h2.set_ 13 (.bool false)).set_ 14 (.bool false)
 have f2:=(h2.set_ 13 (.bool false)).frozen 14
 simp only [Jd,Je,Jf] at b3 z2
 simp only [Ja,Jb,Jc] at z0 z2
 rw [ha] at z0
 rw [hw] at z2
 have hne:g≠w.heap.size:=by have:=h.blk.lt;omega
 have hr:=((Blk.new w 42 (repA err A n c ver r3 r4 r5 r6)).far (p:=⟨g,13,none⟩) (Ne.symm hne) (.bool false)).far (p:=⟨g,14,none⟩) (Ne.symm hne) (.bool false)
 have ho:Only g w (((w.alloc (.cells (repA err A n c ver r3 r4 r5 r6) 42)).setCell ⟨g,13,none⟩ (.bool false)).setCell ⟨g,14,none⟩ (.bool false)):=(((Only.refl g w).alloc _).setCell (.inl rfl) _).setCell (.inl rfl) _
 have HC:=Jh (h.put ho (s':={ s with asked:=false,writes:=false }) b3 rfl (h.read_ ho) (h.next_ ho))
 have HR:=Jh hr
 have HO:=Jh ho
 have HN:=Jh hne
 clear h h2 b3 hr hne ho
 go_enter Tryz.func11,Tryz.ntmps11
 go_upto_region 10 with fail
 obtain ⟨gr,hgr⟩:∃ gr,gr=w.heap.size:=⟨_,rfl⟩
 rw [← hgr] at HR HN ⊢
 clear hgr z0 z2 f0 f1 f2
 generalize ((w.alloc (.cells (repA err A n c ver r3 r4 r5 r6) 42)).setCell ⟨g,13,none⟩ (.bool false)).setCell ⟨g,14,none⟩ (.bool false)=w3 at *
 have r0:=HR.out.cell 0
 simp only [Ja,Jb,Jc] at r0
 obtain rfl:=he.out
 have HSw:=Jh (saw_calls hap w3 HC.out hb0 (Mow.zero w3 base) Gd.zero hge 0 (Sh.only_ hsh HO.out (by have:=HC.out.low;omega)))
 go_wp2_with fail
 refine HSw.out.mono ?_
 rintro en w6 ⟨rfl,pr',pn',HC6,HO6⟩
 have HO9:=Jh (HO.out.trans HO6)
 have HC9:=Jh HC6
 clear HC6 HO6
 go_wp2
 go_ret
 exact ⟨rfl,_,_,HC9.out,HO9.out⟩
set_option maxRecDepth 100000 in
set_option maxHeartbeats 3200000 in
theorem take_garb (hap:ApplyC) (hdc:DecC) (hb0:0<base) (hge:Ge s.d) (w:World) (hsh:Sh w) (h:CmAt w base g s q pr pn) (ha:s.asked=true) (hw:s.writes=false) (A:Option Addr) (n c:Nat) (ver:Int) (r3 r4 r5 r6:Value) (now:Int) (err:Int) (he:Hid (err=0)) (data:List UInt8) (hbt:Hid (∀ w',Only g w w'→Bytes w' w'.heap.size A n data)) (hnc:n≤c) (hn:n≤1000000) (hgd:Gd (decB data).1) (hok:Hid ((decB data).2≠0)) :
  Calls Tryz.prog 11 #[.pointer (some ⟨g,0,none⟩),.agg (repA err A n c ver r3 r4 r5 r6),.int .i64 now] w (qcw w base g ({ s with asked:=false,writes:=false,st:=3,er:=(decB data).2 }) q):=by
 have h2:=h.blk.alloc (.cells (repA err A n c ver r3 r4 r5 r6) 42)
 have z0:=h2.cell 13
 have z2:=(h2.set_ 13 (.bool false)).cell 14
 have f0:=h2.frozen 13
 have f1:=h2.frozen 14
 have b3:=(h2.set_ 13 (.bool false)).set_ 14 (.bool false)
 have f2:=(h2.set_ 13 (.bool false)).frozen 14
 simp only [Jd,Je,Jf] at b3 z2
 simp only [Ja,Jb,Jc] at z0 z2
 rw [ha] at z0
 rw [hw] at z2
 have hne:g≠w.heap.size:=by have:=h.blk.lt;omega
 have hr:=((Blk.new w 42 (repA err A n c ver r3 r4 r5 r6)).far (p:=⟨g,13,none⟩) (Ne.symm hne) (.bool false)).far (p:=⟨g,14,none⟩) (Ne.symm hne) (.bool false)
 have ho:Only g w (((w.alloc (.cells (repA err A n c ver r3 r4 r5 r6) 42)).setCell ⟨g,13,none⟩ (.bool false)).setCell ⟨g,14,none⟩ (.bool false)):=(((Only.refl g w).alloc _).setCell (.inl rfl) _).setCell (.inl rfl) _
 have HC:=Jh (h.put ho (s':={ s with asked:=false,writes:=false }) b3 rfl (h.read_ ho) (h.next_ ho))
 have HR:=Jh hr
 have HO:=Jh ho
 have HN:=Jh hne
 clear h h2 b3 hr hne ho
 go_enter Tryz.func11,Tryz.ntmps11
 go_upto_region 10 with fail
 obtain ⟨gr,hgr⟩:∃ gr,gr=w.heap.size:=⟨_,rfl⟩
 rw [← hgr] at HR HN ⊢
 clear hgr z0 z2 f0 f1 f2
 generalize ((w.alloc (.cells (repA err A n c ver r3 r4 r5 r6) 42)).setCell ⟨g,13,none⟩ (.bool false)).setCell ⟨g,14,none⟩ (.bool false)=w3 at *
 have r0:=HR.out.cell 0
 simp only [Ja,Jb,Jc] at r0
 obtain rfl:=he.out
 have r1:=HR.out.cell 1
 simp only [Ja,Jb,Jc] at r1
 have HSh3:=Jh (Sh.only_ hsh HO.out (by have:=HC.out.low;omega))
 have HDc:=Jh (hdc w3 (c:=c) (hbt.out w3 HO.out) (Nat.le_refl _) hnc hn HSh3.out)
 go_wp2_with fail
 refine HDc.out.mono ?_
 rintro en w5 ⟨pz,rfl,hmo,hb5⟩
 have HB5:=Jh hb5
 have HC5:=Jh (HC.out.below hb5)
 have HO5:Hid (Only g w w5):=Jh (HO.out.trans (Only.of_below hb5))
 have HR5:=Jh (HR.out.below hb5 HR.out.lt)
 have HM5:=Jh (Mow.mono hmo (b2:=base) (by have:=HC.out.blk.lt;have:=HC.out.low;omega))
 have HSh5:=Jh (HSh3.out.below hb5 HSh3.out.lt)
 clear hmo hb5 HDc HC HR HO r0 r1
 obtain ⟨er5,her5⟩:∃ e,e=(decB data).2:=⟨_,rfl⟩
 have HE5:=Jh her5
 rw [← her5] at hok ⊢
 clear her5
 have e5:(er5 != 0)=true:=net hok.out
 have HB6:=(Below.refl w5.heap.size w5).alloc (Nat.le_refl _) (.cells #[.int .i64 (decB data).1.gen,.int .i64 (decB data).1.cut,.int .i64 (decB data).1.fence,.slice pz.AE (decB data).1.E.length pz.cE,.slice pz.AM (decB data).1.M.length pz.cM,.slice pz.AO (decB data).1.O.length pz.cO] 53)
 have HC6:=Jh (HC5.out.below HB6)
 have HO6:Hid (Only g w (w5.alloc (.cells #[.int .i64 (decB data).1.gen,.int .i64 (decB data).1.cut,.int .i64 (decB data).1.fence,.slice pz.AE (decB data).1.E.length pz.cE,.slice pz.AM (decB data).1.M.length pz.cM,.slice pz.AO (decB data).1.O.length pz.cO] 53))):=Jh (HO5.out.trans (Only.of_below HB6))
 have HEn:=Jh (end_calls (w5.alloc (.cells #[.int .i64 (decB data).1.gen,.int .i64 (decB data).1.cut,.int .i64 (decB data).1.fence,.slice pz.AE (decB data).1.E.length pz.cE,.slice pz.AM (decB data).1.M.length pz.cM,.slice pz.AO (decB data).1.O.length pz.cO] 53)) HC6.out.blk (.int .i64 s.st) (.int .i64 s.er) rfl rfl 3 er5)
 have b6:=(HC6.out.blk.set_ 27 (.int .i64 3)).set_ 28 (.int .i64 er5)
 simp only [Jd,Je,Jf] at b6
 have ho6:Only g (w5.alloc (.cells #[.int .i64 (decB data).1.gen,.int .i64 (decB data).1.cut,.int .i64 (decB data).1.fence,.slice pz.AE (decB data).1.E.length pz.cE,.slice pz.AM (decB data).1.M.length pz.cM,.slice pz.AO (decB data).1.O.length pz.cO] 53)) (((w5.alloc (.cells #[.int .i64 (decB data).1.gen,.int .i64 (decB data).1.cut,.int .i64 (decB data).1.fence,.slice pz.AE (decB data).1.E.length pz.cE,.slice pz.AM (decB data).1.M.length pz.cM,.slice pz.AO (decB data).1.O.length pz.cO] 53)).setCell ⟨g,27,none⟩ (.int .i64 3)).setCell ⟨g,28,none⟩ (.int .i64 er5)):=((Only.refl g _).setCell (.inl rfl) _).setCell (.inl rfl) _
 have HC7:=Jh (HC6.out.put ho6 (s':={ s with asked:=false,writes:=false,st:=3,er:=er5 }) b6 rfl (HC6.out.read_ ho6) (HC6.out.next_ ho6))
 have HO7:=Jh (HO6.out.trans ho6)
 clear b6 ho6 HB6 HC5 HO5 HM5 HSh5 HC6 HO6
 go_wp2_with fail
 refine HEn.out.mono ?_
 rintro en w6 ⟨rfl,rfl⟩
 go_wp2
 go_ret
 exact ⟨rfl,_,_,by rw [← HE5.out];exact HC7.out,HO7.out⟩
set_option maxRecDepth 100000 in
set_option maxHeartbeats 3200000 in
theorem take_read (hap:ApplyC) (hdc:DecC) (hb0:0<base) (hge:Ge s.d) (w:World) (hsh:Sh w) (h:CmAt w base g s q pr pn) (ha:s.asked=true) (hw:s.writes=false) (A:Option Addr) (n c:Nat) (ver:Int) (r3 r4 r5 r6:Value) (now:Int) (err:Int) (he:Hid (err=0)) (data:List UInt8) (hbt:Hid (∀ w',Only g w w'→Bytes w' w'.heap.size A n data)) (hnc:n≤c) (hn:n≤1000000) (hgd:Gd (decB data).1) (hok:Hid ((decB data).2=0)) :
  Calls Tryz.prog 11 #[.pointer (some ⟨g,0,none⟩),.agg (repA err A n c ver r3 r4 r5 r6),.int .i64 now] w (qcw w base g (sawS { s with asked:=false,writes:=false } (decB data).1 ver) q):=by
 have h2:=h.blk.alloc (.cells (repA err A n c ver r3 r4 r5 r6) 42)
 have z0:=h2.cell 13
 have z2:=(h2.set_ 13 (.bool false)).cell 14
 have f0:=h2.frozen 13
 have f1:=h2.frozen 14
 have b3:=(h2.set_ 13 (.bool false)).set_ 14 (.bool false)
 have f2:=(h2.set_ 13 (.bool false)).frozen 14
 simp only [Jd,Je,Jf] at b3 z2
 simp only [Ja,Jb,Jc] at z0 z2
 rw [ha] at z0
 rw [hw] at z2
 have hne:g≠w.heap.size:=by have:=h.blk.lt;omega
 have hr:=((Blk.new w 42 (repA err A n c ver r3 r4 r5 r6)).far (p:=⟨g,13,none⟩) (Ne.symm hne) (.bool false)).far (p:=⟨g,14,none⟩) (Ne.symm hne) (.bool false)
 have ho:Only g w (((w.alloc (.cells (repA err A n c ver r3 r4 r5 r6) 42)).setCell ⟨g,13,none⟩ (.bool false)).setCell ⟨g,14,none⟩ (.bool false)):=(((Only.refl g w).alloc _).setCell (.inl rfl) _).setCell (.inl rfl) _
 have HC:=Jh (h.put ho (s':={ s with asked:=false,writes:=false }) b3 rfl (h.read_ ho) (h.next_ ho))
 have HR:=Jh hr
 have HO:=Jh ho
 have HN:=Jh hne
 clear h h2 b3 hr hne ho
 go_enter Tryz.func11,Tryz.ntmps11
 go_upto_region 10 with fail
 obtain ⟨gr,hgr⟩:∃ gr,gr=w.heap.size:=⟨_,rfl⟩
 rw [← hgr] at HR HN ⊢
 clear hgr z0 z2 f0 f1 f2
 generalize ((w.alloc (.cells (repA err A n c ver r3 r4 r5 r6) 42)).setCell ⟨g,13,none⟩ (.bool false)).setCell ⟨g,14,none⟩ (.bool false)=w3 at *
 have r0:=HR.out.cell 0
 simp only [Ja,Jb,Jc] at r0
 obtain rfl:=he.out
 have r1:=HR.out.cell 1
 simp only [Ja,Jb,Jc] at r1
 have HSh3:=Jh (Sh.only_ hsh HO.out (by have:=HC.out.low;omega))
 have HDc:=Jh (hdc w3 (c:=c) (hbt.out w3 HO.out) (Nat.le_refl _) hnc hn HSh3.out)
 go_wp2_with fail
 refine HDc.out.mono ?_
 rintro en w5 ⟨pz,rfl,hmo,hb5⟩
 have HB5:=Jh hb5
 have HC5:=Jh (HC.out.below hb5)
 have HO5:Hid (Only g w w5):=Jh (HO.out.trans (Only.of_below hb5))
 have HR5:=Jh (HR.out.below hb5 HR.out.lt)
 have HM5:=Jh (Mow.mono hmo (b2:=base) (by have:=HC.out.blk.lt;have:=HC.out.low;omega))
 have HSh5:=Jh (HSh3.out.below hb5 HSh3.out.lt)
 clear hmo hb5 HDc HC HR HO r0 r1
 obtain ⟨er5,her5⟩:∃ e,e=(decB data).2:=⟨_,rfl⟩
 rw [← her5] at hok ⊢
 clear her5
 obtain rfl:=hok.out
 have HB6:=(Below.refl w5.heap.size w5).alloc (Nat.le_refl _) (.cells #[.int .i64 (decB data).1.gen,.int .i64 (decB data).1.cut,.int .i64 (decB data).1.fence,.slice pz.AE (decB data).1.E.length pz.cE,.slice pz.AM (decB data).1.M.length pz.cM,.slice pz.AO (decB data).1.O.length pz.cO] 53)
 have HC6:=Jh (HC5.out.below HB6)
 have HM6:=Jh (HM5.out.below HB6)
 have HSh6:=Jh (HSh5.out.below HB6 HSh5.out.lt)
 have HO6:Hid (Only g w (w5.alloc (.cells #[.int .i64 (decB data).1.gen,.int .i64 (decB data).1.cut,.int .i64 (decB data).1.fence,.slice pz.AE (decB data).1.E.length pz.cE,.slice pz.AM (decB data).1.M.length pz.cM,.slice pz.AO (decB data).1.O.length pz.cO] 53))):=Jh (HO5.out.trans (Only.of_below HB6))
 have HSw:=Jh (saw_calls hap (w5.alloc (.cells #[.int .i64 (decB data).1.gen,.int .i64 (decB data).1.cut,.int .i64 (decB data).1.fence,.slice pz.AE (decB data).1.E.length pz.cE,.slice pz.AM (decB data).1.M.length pz.cM,.slice pz.AO (decB data).1.O.length pz.cO] 53)) HC6.out hb0 HM6.out hgd hge ver HSh6.out)
 have r2:=HR5.out.cell 2
 have hgr5:=HR5.out.lt
 simp only [Ja,Jb,Jc] at r2
 clear HB6 HC5 HO5 HM5 HSh5 HC6 HM6 HSh6
 go_wp2_with fail
 refine HSw.out.mono ?_
 rintro en w9 ⟨rfl,pr',pn',HC9,HO9⟩
 have HO10:=Jh (HO6.out.trans HO9)
 have HC10:=Jh HC9
 clear HC9 HO9
 go_wp2
 go_ret
 exact ⟨rfl,_,_,HC10.out,HO10.out⟩
set_option maxRecDepth 100000 in
set_option maxHeartbeats 3200000 in
theorem take_net (w:World) (h:CmAt w base g s q pr pn) (ha:s.asked=true) (A:Option Addr) (n c:Nat) (ver:Int) (r3 r4 r5 r6:Value) (now:Int) (err:Int) (he:Hid (err=10∨err=9)) (hf:s.fails≤7) (h0:0≤now) (h9:now≤1099511627776) (hwt:0≤s.wait∧s.wait≤1099511627776) (s9 e9:Int) (hs:Hid (s.tries≤(s.fails:Int)+1→s9=3∧e9=15)) (hs':Hid (¬ s.tries≤(s.fails:Int)+1→s9=s.st∧e9=s.er)) (wr:Bool) (hw:s.writes=wr) :
  Calls Tryz.prog 11 #[.pointer (some ⟨g,0,none⟩),.agg (repA err A n c ver r3 r4 r5 r6),.int .i64 now] w (qcw w base g ({ s with asked:=false,writes:=false,fails:=s.fails+1,due:=now+s.wait*2 ^ s.fails,st:=s9,er:=e9 }) q):=by
 have h2:=h.blk.alloc (.cells (repA err A n c ver r3 r4 r5 r6) 42)
 have z0:=h2.cell 13
 have z2:=(h2.set_ 13 (.bool false)).cell 14
 have f0:=h2.frozen 13
 have f1:=h2.frozen 14
 have b3:=(h2.set_ 13 (.bool false)).set_ 14 (.bool false)
 have f2:=(h2.set_ 13 (.bool false)).frozen 14
 simp only [Jd,Je,Jf] at b3 z2
 simp only [Ja,Jb,Jc] at z0 z2
 rw [ha] at z0
 rw [hw] at z2
 have hne:g≠w.heap.size:=by have:=h.blk.lt;omega
 have hr:=((Blk.new w 42 (repA err A n c ver r3 r4 r5 r6)).far (p:=⟨g,13,none⟩) (Ne.symm hne) (.bool false)).far (p:=⟨g,14,none⟩) (Ne.symm hne) (.bool false)
 have ho:Only g w (((w.alloc (.cells (repA err A n c ver r3 r4 r5 r6) 42)).setCell ⟨g,13,none⟩ (.bool false)).setCell ⟨g,14,none⟩ (.bool false)):=(((Only.refl g w).alloc _).setCell (.inl rfl) _).setCell (.inl rfl) _
 have HC:=Jh (h.put ho (s':={ s with asked:=false,writes:=false }) b3 rfl (h.read_ ho) (h.next_ ho))
 have HR:=Jh hr
 have HO:=Jh ho
 have HN:=Jh hne
 clear h h2 b3 hr hne ho
 go_enter Tryz.func11,Tryz.ntmps11
 go_upto_region 10 with fail
 obtain ⟨gr,hgr⟩:∃ gr,gr=w.heap.size:=⟨_,rfl⟩
 rw [← hgr] at HR HN ⊢
 clear hgr z0 z2 f0 f1 f2
 generalize ((w.alloc (.cells (repA err A n c ver r3 r4 r5 r6) 42)).setCell ⟨g,13,none⟩ (.bool false)).setCell ⟨g,14,none⟩ (.bool false)=w3 at *
 have r0:=HR.out.cell 0
 simp only [Ja,Jb,Jc] at r0
 clear hw
 have hp:0≤s.wait*2 ^ s.fails∧s.wait*2 ^ s.fails≤140737488355328:=by
  have hpw:(1:Int)≤2 ^ s.fails∧(2:Int) ^ s.fails≤128:=by
   generalize s.fails=n at hf
   rcases n with _|_|_|_|_|_|_|_|n
   all_goals first|decide|omega
  refine ⟨Int.mul_nonneg hwt.1 (by omega),?_⟩
  have h2:=Int.mul_le_mul hwt.2 hpw.2 (by omega) (by omega)
  omega
 have HP:=Jh hp
 clear hp hwt
 rcases he.out with h10|h10
 ·obtain rfl:=h10
  have c10:=HC.out.blk.cell 10
  have f10:=HC.out.blk.frozen 10
  simp only [Ja,Jb,Jc] at c10
  have e1:IntKind.i64.wrap ((s.fails:Int)+1)=(s.fails:Int)+1:=IntWalk.i64_in _ (by omega)
  have b4:=HC.out.blk.set_ 10 (.int .i64 ((s.fails:Int)+1))
  simp only [Jd,Je,Jf] at b4
  have ho4:Only g w3 (w3.setCell ⟨g,10,none⟩ (.int .i64 ((s.fails:Int)+1))):=(Only.refl g w3).setCell (.inl rfl) _
  have HC4:Hid (CmAt (w3.setCell ⟨g,10,none⟩ (.int .i64 ((s.fails:Int)+1))) base g { s with asked:=false,writes:=false,fails:=s.fails+1 } q pr pn):=Jh (HC.out.put ho4 (s':={ s with asked:=false,writes:=false,fails:=s.fails+1 }) b4 rfl (HC.out.read_ ho4) (HC.out.next_ ho4))
  have HO4:=Jh (HO.out.trans ho4)
  clear b4 ho4
  go_upto_region 12 with fail
  clear r0 c10 f10
  generalize w3.setCell ⟨g,10,none⟩ (.int .i64 ((s.fails:Int)+1))=w4 at *
  have y10:w4.cell? ⟨g,10,none⟩=some (.int .i64 ((s.fails:Int)+1)):=HC4.out.blk.cell 10
  have y8:=HC4.out.blk.cell 8
  simp only [Ja,Jb,Jc] at y8
  go_quiet (fail)
  clear y10 y8
  have HC5:=Jh (HC4.out.below (qaa (Below.refl _ _) nq))
  have HO5:=Jh (HO4.out.drewN nq)
  generalize w4.drewN nq=w5 at *
  have e2:IntKind.i64.wrap ((s.fails:Int)+1-1)=(s.fails:Int):=by rw [show (s.fails:Int)+1-1=(s.fails:Int) by omega];exact IntWalk.i64_in _ (by omega)
  have e2':IntKind.i64.wrap (s.fails:Int)=(s.fails:Int):=IntWalk.i64_in _ (by omega)
  have e3:IntKind.i64.wrap (s.wait*2 ^ s.fails)=s.wait*2 ^ s.fails:=IntWalk.i64_in _ (by have:=HP.out;omega)
  have e4:IntKind.i64.wrap (now+s.wait*2 ^ s.fails)=now+s.wait*2 ^ s.fails:=IntWalk.i64_in _ (by have:=HP.out;omega)
  have s0:(0:Int)≤(s.fails:Int):=by omega
  have s1:(s.fails:Int)≤64:=by omega
  by_cases ht:s.tries≤(s.fails:Int)+1
  ·have dt:decide (s.tries≤(s.fails:Int)+1)=true:=dct ht
   have HS9:=Jh (hs.out ht)
   have HEn:=Jh (end_calls w5 HC5.out.blk (.int .i64 s.st) (.int .i64 s.er) rfl rfl 3 15)
   have b6:=(HC5.out.blk.set_ 27 (.int .i64 3)).set_ 28 (.int .i64 15)
   simp only [Jd,Je,Jf] at b6
   have ho6:Only g w5 ((w5.setCell ⟨g,27,none⟩ (.int .i64 3)).setCell ⟨g,28,none⟩ (.int .i64 15)):=((Only.refl g w5).setCell (.inl rfl) _).setCell (.inl rfl) _
   have HCz:Hid (CmAt ((w5.setCell ⟨g,27,none⟩ (.int .i64 3)).setCell ⟨g,28,none⟩ (.int .i64 15)) base g { s with asked:=false,writes:=false,fails:=s.fails+1,st:=3,er:=15 } q pr pn):=Jh (HC5.out.put ho6 (s':={ s with asked:=false,writes:=false,fails:=s.fails+1,st:=3,er:=15 }) b6 rfl (HC5.out.read_ ho6) (HC5.out.next_ ho6))
   have HOz:=Jh (HO5.out.trans ho6)
   clear b6 ho6
   go_wp2_with fail
   refine HEn.out.mono ?_
   rintro en w6 ⟨rfl,rfl⟩
   clear HEn HC5 HO5
   generalize (w5.setCell ⟨g,27,none⟩ (.int .i64 3)).setCell ⟨g,28,none⟩ (.int .i64 15)=wz at *
   have y9:=HCz.out.blk.cell 9
   have y10:wz.cell? ⟨g,10,none⟩=some (.int .i64 ((s.fails:Int)+1)):=HCz.out.blk.cell 10
   have y11:=HCz.out.blk.cell 11
   have f11:=HCz.out.blk.frozen 11
   simp only [Ja,Jb,Jc] at y9 y11
   have b9:=HCz.out.blk.set_ 11 (.int .i64 (now+s.wait*2 ^ s.fails))
   simp only [Jd,Je,Jf] at b9
   have ho9:Only g wz (wz.drew.setCell ⟨g,11,none⟩ (.int .i64 (now+s.wait*2 ^ s.fails))):=(Only.refl g wz).drew.setCell (.inl rfl) _
   have HC9:=Jh (HCz.out.put ho9 (s':={ s with asked:=false,writes:=false,fails:=s.fails+1,due:=now+s.wait*2 ^ s.fails,st:=3,er:=15 }) b9 rfl (HCz.out.read_ ho9) (HCz.out.next_ ho9))
   have HO9:=Jh (HOz.out.trans ho9)
   clear b9 ho9
   go_wp2_with fail
   go_still_tail 15,(by kernel_rfl)
   go_wp2
   go_ret
   obtain ⟨rfl,rfl⟩:=HS9.out
   exact ⟨rfl,_,_,HC9.out,HO9.out⟩
  ·have dt:decide (s.tries≤(s.fails:Int)+1)=false:=dcf ht
   have HS9:=Jh (hs'.out ht)
   have HCz:=HC5
   have HOz:=HO5
   obtain ⟨wz,rfl⟩:∃ wz:World,wz=w5:=⟨_,rfl⟩
   have y9:=HCz.out.blk.cell 9
   have y10:wz.cell? ⟨g,10,none⟩=some (.int .i64 ((s.fails:Int)+1)):=HCz.out.blk.cell 10
   have y11:=HCz.out.blk.cell 11
   have f11:=HCz.out.blk.frozen 11
   simp only [Ja,Jb,Jc] at y9 y11
   have b9:=HCz.out.blk.set_ 11 (.int .i64 (now+s.wait*2 ^ s.fails))
   simp only [Jd,Je,Jf] at b9
   have ho9:Only g wz (wz.drew.setCell ⟨g,11,none⟩ (.int .i64 (now+s.wait*2 ^ s.fails))):=(Only.refl g wz).drew.setCell (.inl rfl) _
   have HC9:=Jh (HCz.out.put ho9 (s':={ s with asked:=false,writes:=false,fails:=s.fails+1,due:=now+s.wait*2 ^ s.fails,st:=s.st,er:=s.er }) b9 rfl (HCz.out.read_ ho9) (HCz.out.next_ ho9))
   have HO9:=Jh (HOz.out.trans ho9)
   clear b9 ho9
   go_wp2_with fail
   go_still_tail 15,(by kernel_rfl)
   go_wp2
   go_ret
   obtain ⟨rfl,rfl⟩:=HS9.out
   exact ⟨rfl,_,_,HC9.out,HO9.out⟩
 ·obtain rfl:=h10
  have c10:=HC.out.blk.cell 10
  have f10:=HC.out.blk.frozen 10
  simp only [Ja,Jb,Jc] at c10
  have e1:IntKind.i64.wrap ((s.fails:Int)+1)=(s.fails:Int)+1:=IntWalk.i64_in _ (by omega)
  have b4:=HC.out.blk.set_ 10 (.int .i64 ((s.fails:Int)+1))
  simp only [Jd,Je,Jf] at b4
  have ho4:Only g w3 (w3.setCell ⟨g,10,none⟩ (.int .i64 ((s.fails:Int)+1))):=(Only.refl g w3).setCell (.inl rfl) _
  have HC4:Hid (CmAt (w3.setCell ⟨g,10,none⟩ (.int .i64 ((s.fails:Int)+1))) base g { s with asked:=false,writes:=false,fails:=s.fails+1 } q pr pn):=Jh (HC.out.put ho4 (s':={ s with asked:=false,writes:=false,fails:=s.fails+1 }) b4 rfl (HC.out.read_ ho4) (HC.out.next_ ho4))
  have HO4:=Jh (HO.out.trans ho4)
  clear b4 ho4
  go_upto_region 12 with fail
  clear r0 c10 f10
  generalize w3.setCell ⟨g,10,none⟩ (.int .i64 ((s.fails:Int)+1))=w4 at *
  have y10:w4.cell? ⟨g,10,none⟩=some (.int .i64 ((s.fails:Int)+1)):=HC4.out.blk.cell 10
  have y8:=HC4.out.blk.cell 8
  simp only [Ja,Jb,Jc] at y8
  go_quiet (fail)
  clear y10 y8
  have HC5:=Jh (HC4.out.below (qaa (Below.refl _ _) nq))
  have HO5:=Jh (HO4.out.drewN nq)
  generalize w4.drewN nq=w5 at *
  have e2:IntKind.i64.wrap ((s.fails:Int)+1-1)=(s.fails:Int):=by rw [show (s.fails:Int)+1-1=(s.fails:Int) by omega];exact IntWalk.i64_in _ (by omega)
  have e2':IntKind.i64.wrap (s.fails:Int)=(s.fails:Int):=IntWalk.i64_in _ (by omega)
  have e3:IntKind.i64.wrap (s.wait*2 ^ s.fails)=s.wait*2 ^ s.fails:=IntWalk.i64_in _ (by have:=HP.out;omega)
  have e4:IntKind.i64.wrap (now+s.wait*2 ^ s.fails)=now+s.wait*2 ^ s.fails:=IntWalk.i64_in _ (by have:=HP.out;omega)
  have s0:(0:Int)≤(s.fails:Int):=by omega
  have s1:(s.fails:Int)≤64:=by omega
  by_cases ht:s.tries≤(s.fails:Int)+1
  ·have dt:decide (s.tries≤(s.fails:Int)+1)=true:=dct ht
   have HS9:=Jh (hs.out ht)
   have HEn:=Jh (end_calls w5 HC5.out.blk (.int .i64 s.st) (.int .i64 s.er) rfl rfl 3 15)
   have b6:=(HC5.out.blk.set_ 27 (.int .i64 3)).set_ 28 (.int .i64 15)
   simp only [Jd,Je,Jf] at b6
   have ho6:Only g w5 ((w5.setCell ⟨g,27,none⟩ (.int .i64 3)).setCell ⟨g,28,none⟩ (.int .i64 15)):=((Only.refl g w5).setCell (.inl rfl) _).setCell (.inl rfl) _
   have HCz:Hid (CmAt ((w5.setCell ⟨g,27,none⟩ (.int .i64 3)).setCell ⟨g,28,none⟩ (.int .i64 15)) base g { s with asked:=false,writes:=false,fails:=s.fails+1,st:=3,er:=15 } q pr pn):=Jh (HC5.out.put ho6 (s':={ s with asked:=false,writes:=false,fails:=s.fails+1,st:=3,er:=15 }) b6 rfl (HC5.out.read_ ho6) (HC5.out.next_ ho6))
   have HOz:=Jh (HO5.out.trans ho6)
   clear b6 ho6
   go_wp2_with fail
   refine HEn.out.mono ?_
   rintro en w6 ⟨rfl,rfl⟩
   clear HEn HC5 HO5
   generalize (w5.setCell ⟨g,27,none⟩ (.int .i64 3)).setCell ⟨g,28,none⟩ (.int .i64 15)=wz at *
   have y9:=HCz.out.blk.cell 9
   have y10:wz.cell? ⟨g,10,none⟩=some (.int .i64 ((s.fails:Int)+1)):=HCz.out.blk.cell 10
   have y11:=HCz.out.blk.cell 11
   have f11:=HCz.out.blk.frozen 11
   simp only [Ja,Jb,Jc] at y9 y11
   have b9:=HCz.out.blk.set_ 11 (.int .i64 (now+s.wait*2 ^ s.fails))
   simp only [Jd,Je,Jf] at b9
   have ho9:Only g wz (wz.drew.setCell ⟨g,11,none⟩ (.int .i64 (now+s.wait*2 ^ s.fails))):=(Only.refl g wz).drew.setCell (.inl rfl) _
   have HC9:=Jh (HCz.out.put ho9 (s':={ s with asked:=false,writes:=false,fails:=s.fails+1,due:=now+s.wait*2 ^ s.fails,st:=3,er:=15 }) b9 rfl (HCz.out.read_ ho9) (HCz.out.next_ ho9))
   have HO9:=Jh (HOz.out.trans ho9)
   clear b9 ho9
   go_wp2_with fail
   go_still_tail 15,(by kernel_rfl)
   go_wp2
   go_ret
   obtain ⟨rfl,rfl⟩:=HS9.out
   exact ⟨rfl,_,_,HC9.out,HO9.out⟩
  ·have dt:decide (s.tries≤(s.fails:Int)+1)=false:=dcf ht
   have HS9:=Jh (hs'.out ht)
   have HCz:=HC5
   have HOz:=HO5
   obtain ⟨wz,rfl⟩:∃ wz:World,wz=w5:=⟨_,rfl⟩
   have y9:=HCz.out.blk.cell 9
   have y10:wz.cell? ⟨g,10,none⟩=some (.int .i64 ((s.fails:Int)+1)):=HCz.out.blk.cell 10
   have y11:=HCz.out.blk.cell 11
   have f11:=HCz.out.blk.frozen 11
   simp only [Ja,Jb,Jc] at y9 y11
   have b9:=HCz.out.blk.set_ 11 (.int .i64 (now+s.wait*2 ^ s.fails))
   simp only [Jd,Je,Jf] at b9
   have ho9:Only g wz (wz.drew.setCell ⟨g,11,none⟩ (.int .i64 (now+s.wait*2 ^ s.fails))):=(Only.refl g wz).drew.setCell (.inl rfl) _
   have HC9:=Jh (HCz.out.put ho9 (s':={ s with asked:=false,writes:=false,fails:=s.fails+1,due:=now+s.wait*2 ^ s.fails,st:=s.st,er:=s.er }) b9 rfl (HCz.out.read_ ho9) (HCz.out.next_ ho9))
   have HO9:=Jh (HOz.out.trans ho9)
   clear b9 ho9
   go_wp2_with fail
   go_still_tail 15,(by kernel_rfl)
   go_wp2
   go_ret
   obtain ⟨rfl,rfl⟩:=HS9.out
   exact ⟨rfl,_,_,HC9.out,HO9.out⟩
end
def qb0 (w:World) (base g:Nat) (s':Cst) (q:Pd) (e:Ending) (w':World):Prop:=e=.returned (.bool true)∧∃ pr pn,DmAt w' base g s' q pr pn∧Only g w w'
section
variable {base g:Nat} {s:Cst} {q:Pd} {pr pn:Pl}
set_option maxRecDepth 100000 in
set_option maxHeartbeats 3200000 in
theorem takeR_no (w:World) (h:DmAt w base g s q pr pn) (ha:s.asked=false) (r0 r1 r2 r3 r4 r5 r6:Value) (now:Int) :
  Calls Tryz.prog 20 #[.pointer (some ⟨g,0,none⟩),.agg #[r0,r1,r2,r3,r4,r5,r6],.int .i64 now] w fun e w'=>e=.returned (.bool false)∧Below w.heap.size w w':=by
 have h2:=h.blk.alloc (.cells #[r0,r1,r2,r3,r4,r5,r6] 42)
 have z0:=h2.cell 11
 simp only [Ja,Jb,Jc] at z0
 rw [ha] at z0
 clear h h2
 go_enter Tryz.func20,Tryz.ntmps20
 go_wp2
 go_ret
 exact ⟨rfl,(Below.refl _ _).alloc (Nat.le_refl _) _⟩
set_option maxRecDepth 100000 in
set_option maxHeartbeats 3200000 in
theorem takeR_vers (w:World) (h:DmAt w base g s q pr pn) (ha:s.asked=true) (hw:s.writes=true) (A:Option Addr) (n c:Nat) (ver:Int) (r3 r4 r5 r6:Value) (now:Int) (err:Int) (he:Hid (err=8)) :
  Calls Tryz.prog 20 #[.pointer (some ⟨g,0,none⟩),.agg (repA err A n c ver r3 r4 r5 r6),.int .i64 now] w (qb0 w base g ({ s with asked:=false,writes:=false }) q):=by
 have h2:=h.blk.alloc (.cells (repA err A n c ver r3 r4 r5 r6) 42)
 have z0:=h2.cell 11
 have f0:=h2.frozen 11
 have b3:=h2.set_ 11 (.bool false)
 simp only [Jd,Je,Jf] at b3
 simp only [Ja,Jb,Jc] at z0
 rw [ha] at z0
 have hne:g≠w.heap.size:=by have:=h.blk.lt;omega
 have hr:=(Blk.new w 42 (repA err A n c ver r3 r4 r5 r6)).far (p:=⟨g,11,none⟩) (Ne.symm hne) (.bool false)
 have ho:Only g w ((w.alloc (.cells (repA err A n c ver r3 r4 r5 r6) 42)).setCell ⟨g,11,none⟩ (.bool false)):=((Only.refl g w).alloc _).setCell (.inl rfl) _
 have HC:=Jh (h.put ho (s':={ s with asked:=false }) b3 rfl (h.read_ ho) (h.next_ ho))
 have HR:=Jh hr
 have HO:=Jh ho
 have HN:=Jh hne
 have HWr:=Jh hw
 clear h h2 b3 hr hne ho hw
 go_enter Tryz.func20,Tryz.ntmps20
 go_upto_region 4 with fail
 obtain ⟨gr,hgr⟩:∃ gr,gr=w.heap.size:=⟨_,rfl⟩
 rw [← hgr] at HR HN ⊢
 clear hgr z0 f0
 generalize (w.alloc (.cells (repA err A n c ver r3 r4 r5 r6) 42)).setCell ⟨g,11,none⟩ (.bool false)=w3 at *
 have r0:=HR.out.cell 0
 simp only [Ja,Jb,Jc] at r0
 have y10:w3.cell? ⟨g,10,none⟩=some (.bool s.writes):=HC.out.blk.cell 10
 rw [HWr.out] at y10
 obtain rfl:=he.out
 have f10:=HC.out.blk.frozen 10
 have b_A:=(HC.out.blk.set_ 10 (.bool false))
 simp only [Jd,Je,Jf] at b_A
 have ho_A:Only g w3 (w3.setCell ⟨g,10,none⟩ (.bool false)):=(Only.refl g w3).setCell (p:=⟨g,10,none⟩) (.inl rfl) (.bool false)
 have HCA:Hid (DmAt (w3.setCell ⟨g,10,none⟩ (.bool false)) base g { s with asked:=false,writes:=false } q pr pn):=Jh (HC.out.put ho_A (s':={ s with asked:=false,writes:=false }) (pr':=pr) (pn':=pn) b_A rfl (HC.out.read_ ho_A) (HC.out.next_ ho_A))
 have HOA:=Jh (HO.out.trans ho_A)
 have HRA:=Jh (ho_A.blk HR.out (Ne.symm HN.out))
 clear b_A ho_A
 go_upto_region 9 with fail
 generalize (w3.setCell ⟨g,10,none⟩ (.bool false))=w4 at *
 clear r0 y10 f10
 have r0:=HRA.out.cell 0
 simp only [Ja,Jb,Jc] at r0
 go_wp2
 go_ret
 exact ⟨rfl,_,_,HCA.out,HOA.out⟩
set_option maxRecDepth 100000 in
set_option maxHeartbeats 3200000 in
theorem takeR_done (w:World) (h:DmAt w base g s q pr pn) (ha:s.asked=true) (hw:s.writes=true) (A:Option Addr) (n c:Nat) (ver:Int) (r3 r4 r5 r6:Value) (now:Int) (err:Int) (he:Hid (err=0)) :
  Calls Tryz.prog 20 #[.pointer (some ⟨g,0,none⟩),.agg (repA err A n c ver r3 r4 r5 r6),.int .i64 now] w (qb0 w base g ({ s with asked:=false,writes:=false,read:=s.next,st:=1 }) q):=by
 have h2:=h.blk.alloc (.cells (repA err A n c ver r3 r4 r5 r6) 42)
 have z0:=h2.cell 11
 have f0:=h2.frozen 11
 have b3:=h2.set_ 11 (.bool false)
 simp only [Jd,Je,Jf] at b3
 simp only [Ja,Jb,Jc] at z0
 rw [ha] at z0
 have hne:g≠w.heap.size:=by have:=h.blk.lt;omega
 have hr:=(Blk.new w 42 (repA err A n c ver r3 r4 r5 r6)).far (p:=⟨g,11,none⟩) (Ne.symm hne) (.bool false)
 have ho:Only g w ((w.alloc (.cells (repA err A n c ver r3 r4 r5 r6) 42)).setCell ⟨g,11,none⟩ (.bool false)):=((Only.refl g w).alloc _).setCell (.inl rfl) _
 have HC:=Jh (h.put ho (s':={ s with asked:=false }) b3 rfl (h.read_ ho) (h.next_ ho))
 have HR:=Jh hr
 have HO:=Jh ho
 have HN:=Jh hne
 have HWr:=Jh hw
 clear h h2 b3 hr hne ho hw
 go_enter Tryz.func20,Tryz.ntmps20
 go_upto_region 4 with fail
 obtain ⟨gr,hgr⟩:∃ gr,gr=w.heap.size:=⟨_,rfl⟩
 rw [← hgr] at HR HN ⊢
 clear hgr z0 f0
 generalize (w.alloc (.cells (repA err A n c ver r3 r4 r5 r6) 42)).setCell ⟨g,11,none⟩ (.bool false)=w3 at *
 have r0:=HR.out.cell 0
 simp only [Ja,Jb,Jc] at r0
 have y10:w3.cell? ⟨g,10,none⟩=some (.bool s.writes):=HC.out.blk.cell 10
 rw [HWr.out] at y10
 obtain rfl:=he.out
 have f10:=HC.out.blk.frozen 10
 have b_A:=(HC.out.blk.set_ 10 (.bool false))
 simp only [Jd,Je,Jf] at b_A
 have ho_A:Only g w3 (w3.setCell ⟨g,10,none⟩ (.bool false)):=(Only.refl g w3).setCell (p:=⟨g,10,none⟩) (.inl rfl) (.bool false)
 have HCA:Hid (DmAt (w3.setCell ⟨g,10,none⟩ (.bool false)) base g { s with asked:=false,writes:=false } q pr pn):=Jh (HC.out.put ho_A (s':={ s with asked:=false,writes:=false }) (pr':=pr) (pn':=pn) b_A rfl (HC.out.read_ ho_A) (HC.out.next_ ho_A))
 have HOA:=Jh (HO.out.trans ho_A)
 have HRA:=Jh (ho_A.blk HR.out (Ne.symm HN.out))
 clear b_A ho_A
 go_upto_region 9 with fail
 generalize (w3.setCell ⟨g,10,none⟩ (.bool false))=w4 at *
 clear r0 y10 f10
 have r0:=HRA.out.cell 0
 simp only [Ja,Jb,Jc] at r0
 have f15:=HCA.out.blk.frozen 15
 have y15:=HCA.out.blk.cell 15
 have f16:=HCA.out.blk.frozen 16
 have y16:=HCA.out.blk.cell 16
 have f17:=HCA.out.blk.frozen 17
 have y17:=HCA.out.blk.cell 17
 have f18:=HCA.out.blk.frozen 18
 have y18:=HCA.out.blk.cell 18
 have f19:=HCA.out.blk.frozen 19
 have y19:=HCA.out.blk.cell 19
 have f20:=HCA.out.blk.frozen 20
 have y20:=HCA.out.blk.cell 20
 have f21:=HCA.out.blk.frozen 21
 have y21:=HCA.out.blk.cell 21
 have f22:=HCA.out.blk.frozen 22
 have y22:=HCA.out.blk.cell 22
 have f23:=HCA.out.blk.frozen 23
 have y23:=HCA.out.blk.cell 23
 have f24:=HCA.out.blk.frozen 24
 have y24:=HCA.out.blk.cell 24
 have f25:=HCA.out.blk.frozen 25
 have y25:=HCA.out.blk.cell 25
 have f26:=HCA.out.blk.frozen 26
 have y26:=HCA.out.blk.cell 26
 have f27:=HCA.out.blk.frozen 27
 have y27:=HCA.out.blk.cell 27
 simp only [Ja,Jb,Jc] at y15 y16 y17 y18 y19 y20 y21 y22 y23 y24 y25 y26 y27
 have b_B:=(((((((HCA.out.blk.set_ 15 (.int .i64 s.next.gen)).set_ 16 (.int .i64 s.next.cut)).set_ 17 (.int .i64 s.next.fence)).set_ 18 (.slice pn.AE s.next.E.length pn.cE)).set_ 19 (.slice pn.AM s.next.M.length pn.cM)).set_ 20 (.slice pn.AO s.next.O.length pn.cO)).set_ 27 (.int .i64 1))
 simp only [Jd,Je,Jf] at b_B
 have ho_B:Only g w4 (((((((w4.setCell ⟨g,15,none⟩ (.int .i64 s.next.gen)).setCell ⟨g,16,none⟩ (.int .i64 s.next.cut)).setCell ⟨g,17,none⟩ (.int .i64 s.next.fence)).setCell ⟨g,18,none⟩ (.slice pn.AE s.next.E.length pn.cE)).setCell ⟨g,19,none⟩ (.slice pn.AM s.next.M.length pn.cM)).setCell ⟨g,20,none⟩ (.slice pn.AO s.next.O.length pn.cO)).setCell ⟨g,27,none⟩ (.int .i64 1)):=(((((((Only.refl g w4).setCell (p:=⟨g,15,none⟩) (.inl rfl) (.int .i64 s.next.gen)).setCell (p:=⟨g,16,none⟩) (.inl rfl) (.int .i64 s.next.cut)).setCell (p:=⟨g,17,none⟩) (.inl rfl) (.int .i64 s.next.fence)).setCell (p:=⟨g,18,none⟩) (.inl rfl) (.slice pn.AE s.next.E.length pn.cE)).setCell (p:=⟨g,19,none⟩) (.inl rfl) (.slice pn.AM s.next.M.length pn.cM)).setCell (p:=⟨g,20,none⟩) (.inl rfl) (.slice pn.AO s.next.O.length pn.cO)).setCell (p:=⟨g,27,none⟩) (.inl rfl) (.int .i64 1)
 have HCB:Hid (DmAt (((((((w4.setCell ⟨g,15,none⟩ (.int .i64 s.next.gen)).setCell ⟨g,16,none⟩ (.int .i64 s.next.cut)).setCell ⟨g,17,none⟩ (.int .i64 s.next.fence)).setCell ⟨g,18,none⟩ (.slice pn.AE s.next.E.length pn.cE)).setCell ⟨g,19,none⟩ (.slice pn.AM s.next.M.length pn.cM)).setCell ⟨g,20,none⟩ (.slice pn.AO s.next.O.length pn.cO)).setCell ⟨g,27,none⟩ (.int .i64 1)) base g { s with asked:=false,writes:=false,read:=s.next,st:=1 } q pn pn):=Jh (HCA.out.put ho_B (s':={ s with asked:=false,writes:=false,read:=s.next,st:=1 }) (pr':=pn) (pn':=pn) b_B rfl (HCA.out.next_ ho_B) (HCA.out.next_ ho_B))
 have HOB:=Jh (HOA.out.trans ho_B)
 clear b_B ho_B
 go_wp2
 go_ret
 exact ⟨rfl,_,_,HCB.out,HOB.out⟩
set_option maxRecDepth 100000 in
set_option maxHeartbeats 3200000 in
theorem takeR_wfail (w:World) (h:DmAt w base g s q pr pn) (ha:s.asked=true) (hw:s.writes=true) (A:Option Addr) (n c:Nat) (ver:Int) (r3 r4 r5 r6:Value) (now:Int) (err:Int) (h10:err≠10) (h9:err≠9) (h8:err≠8) (h0:err≠0) :
  Calls Tryz.prog 20 #[.pointer (some ⟨g,0,none⟩),.agg (repA err A n c ver r3 r4 r5 r6),.int .i64 now] w (qb0 w base g ({ s with asked:=false,writes:=false,st:=3,er:=err }) q):=by
 have h2:=h.blk.alloc (.cells (repA err A n c ver r3 r4 r5 r6) 42)
 have z0:=h2.cell 11
 have f0:=h2.frozen 11
 have b3:=h2.set_ 11 (.bool false)
 simp only [Jd,Je,Jf] at b3
 simp only [Ja,Jb,Jc] at z0
 rw [ha] at z0
 have hne:g≠w.heap.size:=by have:=h.blk.lt;omega
 have hr:=(Blk.new w 42 (repA err A n c ver r3 r4 r5 r6)).far (p:=⟨g,11,none⟩) (Ne.symm hne) (.bool false)
 have ho:Only g w ((w.alloc (.cells (repA err A n c ver r3 r4 r5 r6) 42)).setCell ⟨g,11,none⟩ (.bool false)):=((Only.refl g w).alloc _).setCell (.inl rfl) _
 have HC:=Jh (h.put ho (s':={ s with asked:=false }) b3 rfl (h.read_ ho) (h.next_ ho))
 have HR:=Jh hr
 have HO:=Jh ho
 have HN:=Jh hne
 have HWr:=Jh hw
 clear h h2 b3 hr hne ho hw
 go_enter Tryz.func20,Tryz.ntmps20
 go_upto_region 4 with fail
 obtain ⟨gr,hgr⟩:∃ gr,gr=w.heap.size:=⟨_,rfl⟩
 rw [← hgr] at HR HN ⊢
 clear hgr z0 f0
 generalize (w.alloc (.cells (repA err A n c ver r3 r4 r5 r6) 42)).setCell ⟨g,11,none⟩ (.bool false)=w3 at *
 have r0:=HR.out.cell 0
 simp only [Ja,Jb,Jc] at r0
 have y10:w3.cell? ⟨g,10,none⟩=some (.bool s.writes):=HC.out.blk.cell 10
 rw [HWr.out] at y10
 have e10:(err == 10)=false:=eqf h10
 have e9:(err == 9)=false:=eqf h9
 have e8:(err != 8)=true:=net h8
 have e0:(err == 0)=false:=eqf h0
 have f10:=HC.out.blk.frozen 10
 have b_A:=(HC.out.blk.set_ 10 (.bool false))
 simp only [Jd,Je,Jf] at b_A
 have ho_A:Only g w3 (w3.setCell ⟨g,10,none⟩ (.bool false)):=(Only.refl g w3).setCell (p:=⟨g,10,none⟩) (.inl rfl) (.bool false)
 have HCA:Hid (DmAt (w3.setCell ⟨g,10,none⟩ (.bool false)) base g { s with asked:=false,writes:=false } q pr pn):=Jh (HC.out.put ho_A (s':={ s with asked:=false,writes:=false }) (pr':=pr) (pn':=pn) b_A rfl (HC.out.read_ ho_A) (HC.out.next_ ho_A))
 have HOA:=Jh (HO.out.trans ho_A)
 have HRA:=Jh (ho_A.blk HR.out (Ne.symm HN.out))
 clear b_A ho_A
 go_upto_region 9 with fail
 generalize (w3.setCell ⟨g,10,none⟩ (.bool false))=w4 at *
 clear r0 y10 f10
 have r0:=HRA.out.cell 0
 simp only [Ja,Jb,Jc] at r0
 have f27:=HCA.out.blk.frozen 27
 have y27:=HCA.out.blk.cell 27
 simp only [Ja,Jb,Jc] at y27
 have b_B:=(HCA.out.blk.set_ 27 (.int .i64 3))
 simp only [Jd,Je,Jf] at b_B
 have ho_B:Only g w4 (w4.setCell ⟨g,27,none⟩ (.int .i64 3)):=(Only.refl g w4).setCell (p:=⟨g,27,none⟩) (.inl rfl) (.int .i64 3)
 have HCB:Hid (DmAt (w4.setCell ⟨g,27,none⟩ (.int .i64 3)) base g { s with asked:=false,writes:=false,st:=3 } q pr pn):=Jh (HCA.out.put ho_B (s':={ s with asked:=false,writes:=false,st:=3 }) (pr':=pr) (pn':=pn) b_B rfl (HCA.out.read_ ho_B) (HCA.out.next_ ho_B))
 have HOB:=Jh (HOA.out.trans ho_B)
 have HRB:=Jh (ho_B.blk HRA.out (Ne.symm HN.out))
 clear b_B ho_B
 go_upto_region 14 with fail
 generalize (w4.setCell ⟨g,27,none⟩ (.int .i64 3))=w5 at *
 clear r0 f27 y27
 have r0:=HRB.out.cell 0
 simp only [Ja,Jb,Jc] at r0
 have f28:=HCB.out.blk.frozen 28
 have y28:=HCB.out.blk.cell 28
 simp only [Ja,Jb,Jc] at y28
 have b_D:=(HCB.out.blk.set_ 28 (.int .i64 err))
 simp only [Jd,Je,Jf] at b_D
 have ho_D:Only g w5 (w5.setCell ⟨g,28,none⟩ (.int .i64 err)):=(Only.refl g w5).setCell (p:=⟨g,28,none⟩) (.inl rfl) (.int .i64 err)
 have HCD:Hid (DmAt (w5.setCell ⟨g,28,none⟩ (.int .i64 err)) base g { s with asked:=false,writes:=false,st:=3,er:=err } q pr pn):=Jh (HCB.out.put ho_D (s':={ s with asked:=false,writes:=false,st:=3,er:=err }) (pr':=pr) (pn':=pn) b_D rfl (HCB.out.read_ ho_D) (HCB.out.next_ ho_D))
 have HOD:=Jh (HOB.out.trans ho_D)
 clear b_D ho_D
 go_wp2
 go_ret
 exact ⟨rfl,_,_,HCD.out,HOD.out⟩
end
end Go.Proofs.YtibnehaibgbliaaGreat.Mf
