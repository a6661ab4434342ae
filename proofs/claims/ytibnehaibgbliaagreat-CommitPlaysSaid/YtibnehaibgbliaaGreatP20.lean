/- Laws for the row's walk. -/
import Derived.Test.YtibnehaibgbliaaGreatP19
set_option linter.unusedVariables false
set_option linter.unusedSimpArgs false
open Go.Lib renaming hid → Jh
open List renaming getElem?_toArray → Ja, getElem?_cons_zero → Jb, getElem?_cons_succ → Jc, setIfInBounds_toArray → Jd, set_cons_zero → Je, set_cons_succ → Jf
namespace Go.Proofs.YtibnehaibgbliaaGreat.Mf
open Go.RowKit Go.Proofs.YtibnehaibgbliaaGreat
theorem pw_two (W:Int) (n:Nat):W*2 ^ (n+1)=2*(W*2 ^ n):=by rw [Int.pow_succ];rw [← Int.mul_assoc,Int.mul_comm]
theorem pw_seven (n:Nat) (h:n≤7):(1:Int)≤2 ^ n∧(2:Int) ^ n≤128:=by
 rcases n with _|_|_|_|_|_|_|_|n
 all_goals first|decide|omega
theorem pw_fits {W:Int} (h:0≤W∧W≤1099511627776) {n:Nat} (hn:n≤7):0≤W*2 ^ n∧W*2 ^ n≤140737488355328:=by
 obtain ⟨a,b⟩:=pw_seven n hn
 refine ⟨Int.mul_nonneg h.1 (by omega),?_⟩
 have h2:=Int.mul_le_mul h.2 b (by omega) (by omega)
 omega
section
variable {base g:Nat} {s:Cst} {q:Pd} {pr pn:Pl}
def RetFail (w:World) (base g:Nat) (s':Cst) (q:Pd) (e:Ending) (w':World):Prop:=e=.returned (.tuple #[])∧∃ pr pn,DmAt w' base g s' q pr pn∧Only g w w'
set_option maxRecDepth 100000 in
set_option maxHeartbeats 3200000 in
theorem fail_last (w:World) (h:DmAt w base g s q pr pn) (hf:s.fails≤7) (now:Int) (ht:Hid ((s.fails:Int)+1=s.tries)) :
  Calls Tryz.prog 41 #[.pointer (some ⟨g,0,none⟩),.int .i64 now] w (RetFail w base g { s with writes:=false,fails:=s.fails+1,st:=3,er:=15 } q):=by
 have c12:w.cell? ⟨g,12,none⟩=some (.int .i64 (s.fails:Int)):=h.blk.cell 12
 have f12:=h.blk.frozen 12
 have f10:=h.blk.frozen 10
 have e1:IntKind.i64.wrap ((s.fails:Int)+1)=(s.fails:Int)+1:=IntWalk.i64_in _ (by omega)
 have b4:=(h.blk.set_ 12 (.int .i64 ((s.fails:Int)+1))).set_ 10 (.bool false)
 have g10:=(h.blk.set_ 12 (.int .i64 ((s.fails:Int)+1))).frozen 10
 have y10:=(h.blk.set_ 12 (.int .i64 ((s.fails:Int)+1))).cell 10
 have y10a:=h.blk.cell 10
 simp only [Jd,Je,Jf] at b4 y10
 simp only [Ja,Jb,Jc] at y10 y10a
 have ho4:Only g w ((w.setCell ⟨g,12,none⟩ (.int .i64 ((s.fails:Int)+1))).setCell ⟨g,10,none⟩ (.bool false)):=((Only.refl g w).setCell (.inl rfl) _).setCell (.inl rfl) _
 have HC4:Hid (DmAt ((w.setCell ⟨g,12,none⟩ (.int .i64 ((s.fails:Int)+1))).setCell ⟨g,10,none⟩ (.bool false)) base g { s with writes:=false,fails:=s.fails+1 } q pr pn):=Jh (h.put ho4 (s':={ s with writes:=false,fails:=s.fails+1 }) b4 rfl (h.read_ ho4) (h.next_ ho4))
 have HO4:=Jh ho4
 clear b4 ho4 h
 go_enter Tryz.func41,Tryz.ntmps41
 go_upto_region 2 with fail
 clear c12 f12 f10 g10 y10 y10a
 generalize (w.setCell ⟨g,12,none⟩ (.int .i64 ((s.fails:Int)+1))).setCell ⟨g,10,none⟩ (.bool false)=w4 at *
 have y12:w4.cell? ⟨g,12,none⟩=some (.int .i64 ((s.fails:Int)+1)):=HC4.out.blk.cell 12
 have y8:=HC4.out.blk.cell 8
 simp only [Ja,Jb,Jc] at y8
 go_quiet (fail)
 clear y12 y8
 have HC5:=Jh (HC4.out.below (qaa (Below.refl _ _) nq))
 have HO5:=Jh (HO4.out.trans (Only.of_below (qaa (Below.refl _ _) nq)))
 generalize w4.drewN nq=w5 at *
 have dt:((s.fails:Int)+1 == s.tries)=true:=eqt ht.out
 have f27:=HC5.out.blk.frozen 27
 have f28:=HC5.out.blk.frozen 28
 have y27:=HC5.out.blk.cell 27
 have y28:=HC5.out.blk.cell 28
 simp only [Ja,Jb,Jc] at y27 y28
 have b6:=(HC5.out.blk.set_ 27 (.int .i64 3)).set_ 28 (.int .i64 15)
 simp only [Jd,Je,Jf] at b6
 have ho6:Only g w5 ((w5.setCell ⟨g,27,none⟩ (.int .i64 3)).setCell ⟨g,28,none⟩ (.int .i64 15)):=((Only.refl g w5).setCell (.inl rfl) _).setCell (.inl rfl) _
 have HC6:=Jh (HC5.out.put ho6 (s':={ s with writes:=false,fails:=s.fails+1,st:=3,er:=15 }) b6 rfl (HC5.out.read_ ho6) (HC5.out.next_ ho6))
 have HO6:=Jh (HO5.out.trans ho6)
 clear b6 ho6
 go_wp2
 go_end0
 exact ⟨rfl,_,_,HC6.out,HO6.out⟩
set_option maxRecDepth 100000 in
set_option maxHeartbeats 3200000 in
theorem fail_more (w:World) (h:DmAt w base g s q pr pn) (hf:s.fails≤7) (now:Int) (h0:0≤now) (h9:now≤1099511627776) (hwt:Hid (0≤s.wait∧s.wait≤1099511627776)) (ht:Hid ((s.fails:Int)+1≠s.tries)) :
  Calls Tryz.prog 41 #[.pointer (some ⟨g,0,none⟩),.int .i64 now] w (RetFail w base g { s with writes:=false,fails:=s.fails+1,due:=now+s.wait*2 ^ s.fails } q):=by
 have c12:w.cell? ⟨g,12,none⟩=some (.int .i64 (s.fails:Int)):=h.blk.cell 12
 have f12:=h.blk.frozen 12
 have f10:=h.blk.frozen 10
 have e1:IntKind.i64.wrap ((s.fails:Int)+1)=(s.fails:Int)+1:=IntWalk.i64_in _ (by omega)
 have b4:=(h.blk.set_ 12 (.int .i64 ((s.fails:Int)+1))).set_ 10 (.bool false)
 have g10:=(h.blk.set_ 12 (.int .i64 ((s.fails:Int)+1))).frozen 10
 have y10:=(h.blk.set_ 12 (.int .i64 ((s.fails:Int)+1))).cell 10
 have y10a:=h.blk.cell 10
 simp only [Jd,Je,Jf] at b4 y10
 simp only [Ja,Jb,Jc] at y10 y10a
 have ho4:Only g w ((w.setCell ⟨g,12,none⟩ (.int .i64 ((s.fails:Int)+1))).setCell ⟨g,10,none⟩ (.bool false)):=((Only.refl g w).setCell (.inl rfl) _).setCell (.inl rfl) _
 have HC4:Hid (DmAt ((w.setCell ⟨g,12,none⟩ (.int .i64 ((s.fails:Int)+1))).setCell ⟨g,10,none⟩ (.bool false)) base g { s with writes:=false,fails:=s.fails+1 } q pr pn):=Jh (h.put ho4 (s':={ s with writes:=false,fails:=s.fails+1 }) b4 rfl (h.read_ ho4) (h.next_ ho4))
 have HO4:=Jh ho4
 clear b4 ho4 h
 go_enter Tryz.func41,Tryz.ntmps41
 go_upto_region 2 with fail
 clear c12 f12 f10 g10 y10 y10a
 generalize (w.setCell ⟨g,12,none⟩ (.int .i64 ((s.fails:Int)+1))).setCell ⟨g,10,none⟩ (.bool false)=w4 at *
 have y12:w4.cell? ⟨g,12,none⟩=some (.int .i64 ((s.fails:Int)+1)):=HC4.out.blk.cell 12
 have y8:=HC4.out.blk.cell 8
 simp only [Ja,Jb,Jc] at y8
 go_quiet (fail)
 clear y12 y8
 have HC5:=Jh (HC4.out.below (qaa (Below.refl _ _) nq))
 have HO5:=Jh (HO4.out.trans (Only.of_below (qaa (Below.refl _ _) nq)))
 generalize w4.drewN nq=w5 at *
 have dt:((s.fails:Int)+1 == s.tries)=false:=eqf ht.out
 have y9:=HC5.out.blk.cell 9
 simp only [Ja,Jb,Jc] at y9
 go_wp2
 go_loopw [4,5] (fun v4 v5 wr=>∃ (j:Nat) (P:Int),j≤s.fails∧v5=.int .i64 ((j:Int)+1)∧v4=.int .i64 P∧Hid (P=s.wait*2 ^ j)∧wr=w5) (fun _ v5 _=>s.fails+1-(intOf v5).toNat)
 case atStart=>exact ⟨0,s.wait,Nat.zero_le _,rfl,rfl,Jh (by simp),rfl⟩
 case round =>
  clear y9
  obtain ⟨j,P,hj,rfl,rfl,HP,rfl⟩:=hrel
  have y12:wr.cell? ⟨g,12,none⟩=some (.int .i64 ((s.fails:Int)+1)):=HC5.out.blk.cell 12
  have hp:=pw_fits hwt.out (n:=j) (by omega)
  rw [← HP.out] at hp
  by_cases hlt:j<s.fails
  ·have dl:decide ((j:Int)+1<(s.fails:Int)+1)=true:=dct (by omega)
   have hjj:(j:Int)<(s.fails:Int):=by omega
   have e3:IntKind.i64.wrap (2*P)=2*P:=IntWalk.i64_in _ (by omega)
   have e4:IntKind.i64.wrap ((j:Int)+1+1)=(j:Int)+1+1:=IntWalk.i64_in _ (by omega)
   have HP2:Hid (2*P=s.wait*2 ^ (j+1)):=Jh (by rw [HP.out,pw_two])
   clear hp
   go_wp2
   go_roundw
   case rel=>exact ⟨j+1,2*P,by omega,by go_num,rfl,HP2,by trivial⟩
   case measure=>simp [intOf];omega
  ·obtain rfl:j=s.fails:=by omega
   have dl:decide ((s.fails:Int)+1<(s.fails:Int)+1)=false:=dcf (by omega)
   have e5:IntKind.i64.wrap (now+P)=now+P:=IntWalk.i64_in _ (by omega)
   have f13:=HC5.out.blk.frozen 13
   have y13:=HC5.out.blk.cell 13
   simp only [Ja,Jb,Jc] at y13
   have b6:=HC5.out.blk.set_ 13 (.int .i64 (now+P))
   simp only [Jd,Je,Jf] at b6
   have ho6:Only g wr (wr.setCell ⟨g,13,none⟩ (.int .i64 (now+P))):=(Only.refl g wr).setCell (.inl rfl) _
   have HC6:=Jh (HC5.out.put ho6 (s':={ s with writes:=false,fails:=s.fails+1,due:=now+P }) b6 rfl (HC5.out.read_ ho6) (HC5.out.next_ ho6))
   have HO6:=Jh (HO5.out.trans ho6)
   clear b6 ho6 hp
   go_wp2
   go_end0
   exact ⟨rfl,_,_,by rw [← HP.out];exact HC6.out,HO6.out⟩
end
def ApplyRC:Prop:=∀ (w:World) {B:Nat} {m:Md} {p:Pl} {d:Ed} {q:Pd},Man w B m p→Edi w B d q→B≤w.heap.size→Short m.E→Short d.add→d.add.length≤1000000→Calls Tryz.prog 26 #[mdV m p,edV d q] w (RetAp w (appM m d) (appE m d))
def DidRC:Prop:=∀ (w:World) {B:Nat} {m:Md} {p:Pl},Man w B m p→B≤w.heap.size→∀ y:Ow,Calls Tryz.prog 25 #[mdV m p,owV y] w fun e w'=>e=.returned (.bool (m.O.any (didB y)))∧Below w.heap.size w w'
def DecRC:Prop:=∀ (w:World) {B n c:Nat} {A:Option Addr} {s:List UInt8},Bytes w B A n s→B≤w.heap.size→n≤c→n≤1000000→Calls Tryz.prog 42 #[.slice A n c] w (RetAp w (decB s).1 (decB s).2)
noncomputable def sawD (s:Cst) (m:Md) (ver:Int):Cst :=
 if m.O.any (didB s.d.by_)=true then { s with read:=m,ver:=ver,st:=1 }
 else if appE m s.d≠0 then { s with read:=m,ver:=ver,st:=2,er:=appE m s.d }
 else { s with read:=m,ver:=ver,next:=appM m s.d,writes:=true }
section
variable {base g:Nat} {s:Cst} {q:Pd} {pr pn:Pl}
set_option maxRecDepth 100000 in
set_option maxHeartbeats 3200000 in
theorem takeR_net {s':Cst} {now:Int} (hfl:∀ w,DmAt w base g { s with asked:=false } q pr pn→Calls Tryz.prog 41 #[.pointer (some ⟨g,0,none⟩),.int .i64 now] w (RetFail w base g s' q)) (w:World) (h:DmAt w base g s q pr pn) (ha:s.asked=true) (wr:Bool) (hw:s.writes=wr) (A:Option Addr) (n c:Nat) (ver:Int) (r3 r4 r5 r6:Value) (err:Int) (he:Hid (err=10∨err=9)) :
  Calls Tryz.prog 20 #[.pointer (some ⟨g,0,none⟩),.agg (repA err A n c ver r3 r4 r5 r6),.int .i64 now] w (qb0 w base g (s') q):=by
 have h2:=h.blk.alloc (.cells (repA err A n c ver r3 r4 r5 r6) 42)
 have z0:=h2.cell 11
 have f0:=h2.frozen 11
 have b3:=h2.set_ 11 (.bool false)
 simp only [Jd,Je,Jf] at b3
 simp only [Ja,Jb,Jc] at z0
 rw [ha] at z0
 have hne:g≠w.heap.size:=by have:=h.blk.lt;omega
 have hr:=(Blk.new w 42 (repA err A n c ver r3 r4 r5 r6)).far (p:=⟨g,11,none⟩) (Ne.symm hne) (.bool false)
 have ho:Only g w ((w.alloc (.cells (repA err A n c ver r3 r4 r5 r6) 42)).setCell ⟨g,11,none⟩ (.bool false)):=((Only.refl g w).alloc _).setCell (.inl rfl) _
 have HC:=Jh (h.put ho (s':={ s with asked:=false }) b3 rfl (h.read_ ho) (h.next_ ho))
 have HR:=Jh hr
 have HO:=Jh ho
 have HN:=Jh hne
 have HWr:=Jh hw
 clear h h2 b3 hr hne ho hw
 go_enter Tryz.func20,Tryz.ntmps20
 go_upto_region 4 with fail
 obtain ⟨gr,hgr⟩:∃ gr,gr=w.heap.size:=⟨_,rfl⟩
 rw [← hgr] at HR HN ⊢
 clear hgr z0 f0
 generalize (w.alloc (.cells (repA err A n c ver r3 r4 r5 r6) 42)).setCell ⟨g,11,none⟩ (.bool false)=w3 at *
 have r0:=HR.out.cell 0
 simp only [Ja,Jb,Jc] at r0
 have y10:w3.cell? ⟨g,10,none⟩=some (.bool s.writes):=HC.out.blk.cell 10
 rw [HWr.out] at y10
 rcases he.out with h10|h10
 ·obtain rfl:=h10
  have HFl:=Jh (hfl w3 HC.out)
  go_wp2_with fail
  refine HFl.out.mono ?_
  rintro en w6 ⟨rfl,pr',pn',hc6,ho6⟩
  have HC6:=Jh hc6
  have HO6:=Jh (HO.out.trans ho6)
  clear hc6 ho6 HFl
  go_wp2
  go_ret
  exact ⟨rfl,_,_,HC6.out,HO6.out⟩
 ·obtain rfl:=h10
  have HFl:=Jh (hfl w3 HC.out)
  go_wp2_with fail
  refine HFl.out.mono ?_
  rintro en w6 ⟨rfl,pr',pn',hc6,ho6⟩
  have HC6:=Jh hc6
  have HO6:=Jh (HO.out.trans ho6)
  clear hc6 ho6 HFl
  go_wp2
  go_ret
  exact ⟨rfl,_,_,HC6.out,HO6.out⟩
set_option maxRecDepth 100000 in
set_option maxHeartbeats 6400000 in
theorem takeR_rfail (w:World) (h:DmAt w base g s q pr pn) (ha:s.asked=true) (hw:s.writes=false) (A:Option Addr) (n c:Nat) (ver:Int) (r3 r4 r5 r6:Value) (now:Int) (err:Int) (h10:err≠10) (h9:err≠9) (h7:err≠7) (h0:err≠0) :
  Calls Tryz.prog 20 #[.pointer (some ⟨g,0,none⟩),.agg (repA err A n c ver r3 r4 r5 r6),.int .i64 now] w (qb0 w base g ({ s with asked:=false,st:=3,er:=err }) q):=by
 have e10:(err == 10)=false:=eqf h10
 have e9:(err == 9)=false:=eqf h9
 have e7:(err != 7)=true:=net h7
 have e0:(err != 0)=true:=net h0
 have h2:=h.blk.alloc (.cells (repA err A n c ver r3 r4 r5 r6) 42)
 have z0:=h2.cell 11
 have f0:=h2.frozen 11
 have b3:=h2.set_ 11 (.bool false)
 simp only [Jd,Je,Jf] at b3
 simp only [Ja,Jb,Jc] at z0
 rw [ha] at z0
 have hne:g≠w.heap.size:=by have:=h.blk.lt;omega
 have hr:=(Blk.new w 42 (repA err A n c ver r3 r4 r5 r6)).far (p:=⟨g,11,none⟩) (Ne.symm hne) (.bool false)
 have ho:Only g w ((w.alloc (.cells (repA err A n c ver r3 r4 r5 r6) 42)).setCell ⟨g,11,none⟩ (.bool false)):=((Only.refl g w).alloc _).setCell (.inl rfl) _
 have HC:=Jh (h.put ho (s':={ s with asked:=false }) b3 rfl (h.read_ ho) (h.next_ ho))
 have HR:=Jh hr
 have HO:=Jh ho
 have HN:=Jh hne
 have HWr:=Jh hw
 clear h h2 b3 hr hne ho hw
 go_enter Tryz.func20,Tryz.ntmps20
 go_upto_region 4 with fail
 obtain ⟨gr,hgr⟩:∃ gr,gr=w.heap.size:=⟨_,rfl⟩
 rw [← hgr] at HR HN ⊢
 clear hgr z0 f0
 generalize (w.alloc (.cells (repA err A n c ver r3 r4 r5 r6) 42)).setCell ⟨g,11,none⟩ (.bool false)=w3 at *
 have r0:=HR.out.cell 0
 simp only [Ja,Jb,Jc] at r0
 have y10:w3.cell? ⟨g,10,none⟩=some (.bool s.writes):=HC.out.blk.cell 10
 rw [HWr.out] at y10
 go_upto_region 17 with fail
 have hx0:=Blk.new w3 53 #[.int .i64 0,.int .i64 0,.int .i64 0,.slice none 0 0,.slice none 0 0,.slice none 0 0]
 have hb0:=(Below.refl w3.heap.size w3).alloc (Nat.le_refl _) (.cells #[.int .i64 0,.int .i64 0,.int .i64 0,.slice none 0 0,.slice none 0 0,.slice none 0 0] 53)
 have HC7:=Jh (HC.out.below hb0)
 have HR7:=Jh (HR.out.below hb0 HR.out.lt)
 have HO7:=Jh (HO.out.trans (Only.of_below hb0))
 obtain ⟨gm,hgm2⟩:∃ gm,gm=w3.heap.size:=⟨_,rfl⟩
 have HGm:Hid (w.heap.size≤gm∧gr<gm):=Jh ⟨by have:=HO.out.size;omega,by have:=HR.out.lt;omega⟩
 rw [← hgm2] at hx0 ⊢
 have HX7:=Jh hx0
 clear hgm2 hx0 hb0 r0 y10 HC HR HO
 generalize w3.alloc (.cells #[.int .i64 0,.int .i64 0,.int .i64 0,.slice none 0 0,.slice none 0 0,.slice none 0 0] 53)=w7 at *
 have r0:=HR7.out.cell 0
 simp only [Ja,Jb,Jc] at r0
 have f27:=HC7.out.blk.frozen 27
 have y27:=HC7.out.blk.cell 27
 simp only [Ja,Jb,Jc] at y27
 have b_B:=(HC7.out.blk.set_ 27 (.int .i64 3))
 simp only [Jd,Je,Jf] at b_B
 have ho_B:Only g w7 (w7.setCell ⟨g,27,none⟩ (.int .i64 3)):=(Only.refl g w7).setCell (p:=⟨g,27,none⟩) (.inl rfl) (.int .i64 3)
 have HCB:Hid (DmAt (w7.setCell ⟨g,27,none⟩ (.int .i64 3)) base g { s with asked:=false,st:=3 } q pr pn):=Jh (HC7.out.put ho_B (s':={ s with asked:=false,st:=3 }) (pr':=pr) (pn':=pn) b_B rfl (HC7.out.read_ ho_B) (HC7.out.next_ ho_B))
 have HOB:=Jh (HO7.out.trans ho_B)
 have HRB:=Jh (ho_B.blk HR7.out (Ne.symm HN.out))
 clear b_B ho_B
 go_upto_region 20 with fail
 generalize (w7.setCell ⟨g,27,none⟩ (.int .i64 3))=w8 at *
 clear r0 f27 y27
 have r0:=HRB.out.cell 0
 simp only [Ja,Jb,Jc] at r0
 have f28:=HCB.out.blk.frozen 28
 have y28:=HCB.out.blk.cell 28
 simp only [Ja,Jb,Jc] at y28
 have b_D:=(HCB.out.blk.set_ 28 (.int .i64 err))
 simp only [Jd,Je,Jf] at b_D
 have ho_D:Only g w8 (w8.setCell ⟨g,28,none⟩ (.int .i64 err)):=(Only.refl g w8).setCell (p:=⟨g,28,none⟩) (.inl rfl) (.int .i64 err)
 have HCD:Hid (DmAt (w8.setCell ⟨g,28,none⟩ (.int .i64 err)) base g { s with asked:=false,st:=3,er:=err } q pr pn):=Jh (HCB.out.put ho_D (s':={ s with asked:=false,st:=3,er:=err }) (pr':=pr) (pn':=pn) b_D rfl (HCB.out.read_ ho_D) (HCB.out.next_ ho_D))
 have HOD:=Jh (HOB.out.trans ho_D)
 clear b_D ho_D
 go_wp2
 go_ret
 exact ⟨rfl,_,_,HCD.out,HOD.out⟩
set_option maxRecDepth 100000 in
set_option maxHeartbeats 6400000 in
theorem takeR_garb (hdc:DecRC) (w:World) (h:DmAt w base g s q pr pn) (ha:s.asked=true) (hw:s.writes=false) (A:Option Addr) (n c:Nat) (ver:Int) (r3 r4 r5 r6:Value) (now:Int) (err:Int) (he:Hid (err=0)) (data:List UInt8) (hbt:Hid (∀ w',Only g w w'→Bytes w' w'.heap.size A n data)) (hnc:n≤c) (hn:n≤1000000) (hok:Hid ((decB data).2≠0)) (s9:Cst) (hs9:Hid (s9={ s with asked:=false,st:=3,er:=(decB data).2 })) :
  Calls Tryz.prog 20 #[.pointer (some ⟨g,0,none⟩),.agg (repA err A n c ver r3 r4 r5 r6),.int .i64 now] w (qb0 w base g (s9) q):=by
 have h2:=h.blk.alloc (.cells (repA err A n c ver r3 r4 r5 r6) 42)
 have z0:=h2.cell 11
 have f0:=h2.frozen 11
 have b3:=h2.set_ 11 (.bool false)
 simp only [Jd,Je,Jf] at b3
 simp only [Ja,Jb,Jc] at z0
 rw [ha] at z0
 have hne:g≠w.heap.size:=by have:=h.blk.lt;omega
 have hr:=(Blk.new w 42 (repA err A n c ver r3 r4 r5 r6)).far (p:=⟨g,11,none⟩) (Ne.symm hne) (.bool false)
 have ho:Only g w ((w.alloc (.cells (repA err A n c ver r3 r4 r5 r6) 42)).setCell ⟨g,11,none⟩ (.bool false)):=((Only.refl g w).alloc _).setCell (.inl rfl) _
 have HC:=Jh (h.put ho (s':={ s with asked:=false }) b3 rfl (h.read_ ho) (h.next_ ho))
 have HR:=Jh hr
 have HO:=Jh ho
 have HN:=Jh hne
 have HWr:=Jh hw
 clear h h2 b3 hr hne ho hw
 go_enter Tryz.func20,Tryz.ntmps20
 go_upto_region 4 with fail
 obtain ⟨gr,hgr⟩:∃ gr,gr=w.heap.size:=⟨_,rfl⟩
 rw [← hgr] at HR HN ⊢
 clear hgr z0 f0
 generalize (w.alloc (.cells (repA err A n c ver r3 r4 r5 r6) 42)).setCell ⟨g,11,none⟩ (.bool false)=w3 at *
 have r0:=HR.out.cell 0
 simp only [Ja,Jb,Jc] at r0
 have y10:w3.cell? ⟨g,10,none⟩=some (.bool s.writes):=HC.out.blk.cell 10
 rw [HWr.out] at y10
 obtain rfl:=he.out
 go_upto_region 17 with fail
 have hx0:=Blk.new w3 53 #[.int .i64 0,.int .i64 0,.int .i64 0,.slice none 0 0,.slice none 0 0,.slice none 0 0]
 have hb0:=(Below.refl w3.heap.size w3).alloc (Nat.le_refl _) (.cells #[.int .i64 0,.int .i64 0,.int .i64 0,.slice none 0 0,.slice none 0 0,.slice none 0 0] 53)
 have HC7:=Jh (HC.out.below hb0)
 have HR7:=Jh (HR.out.below hb0 HR.out.lt)
 have HO7:=Jh (HO.out.trans (Only.of_below hb0))
 obtain ⟨gm,hgm2⟩:∃ gm,gm=w3.heap.size:=⟨_,rfl⟩
 have HGm:Hid (w.heap.size≤gm∧gr<gm):=Jh ⟨by have:=HO.out.size;omega,by have:=HR.out.lt;omega⟩
 rw [← hgm2] at hx0 ⊢
 have HX7:=Jh hx0
 clear hgm2 hx0 hb0 r0 y10 HC HR HO
 generalize w3.alloc (.cells #[.int .i64 0,.int .i64 0,.int .i64 0,.slice none 0 0,.slice none 0 0,.slice none 0 0] 53)=w7 at *
 have r0:=HR7.out.cell 0
 simp only [Ja,Jb,Jc] at r0
 have r1:=HR7.out.cell 1
 simp only [Ja,Jb,Jc] at r1
 have HDc:=Jh (hdc w7 (c:=c) (hbt.out w7 HO7.out) (Nat.le_refl _) hnc hn)
 go_wp2_with fail
 refine HDc.out.mono ?_
 rintro en w5 ⟨pz,rfl,hmo,hb5⟩
 have HB5:=Jh hb5
 have HC5:=Jh (HC7.out.below hb5)
 have HO5:Hid (Only g w w5):=Jh (HO7.out.trans (Only.of_below hb5))
 have HR5:=Jh (HR7.out.below hb5 HR7.out.lt)
 have HX5:=Jh (HX7.out.below hb5 HX7.out.lt)
 have HM5:=Jh (Mow.mono hmo (b2:=base) (by have:=HC7.out.blk.lt;have:=HC7.out.low;omega))
 clear hmo hb5 HDc HC7 HR7 HO7 HX7 r0 r1
 obtain ⟨er5,her5⟩:∃ e,e=(decB data).2:=⟨_,rfl⟩
 have HE5:=Jh her5
 rw [← her5] at hok ⊢
 clear her5
 have e5:(er5 != 0)=true:=net hok.out
 have HB6:=(Below.refl w5.heap.size w5).alloc (Nat.le_refl _) (.cells #[.int .i64 (decB data).1.gen,.int .i64 (decB data).1.cut,.int .i64 (decB data).1.fence,.slice pz.AE (decB data).1.E.length pz.cE,.slice pz.AM (decB data).1.M.length pz.cM,.slice pz.AO (decB data).1.O.length pz.cO] 53)
 have HC6:=Jh (HC5.out.below HB6)
 have HO6:Hid (Only g w (w5.alloc (.cells #[.int .i64 (decB data).1.gen,.int .i64 (decB data).1.cut,.int .i64 (decB data).1.fence,.slice pz.AE (decB data).1.E.length pz.cE,.slice pz.AM (decB data).1.M.length pz.cM,.slice pz.AO (decB data).1.O.length pz.cO] 53))):=Jh (HO5.out.trans (Only.of_below HB6))
 have HR6:=Jh (HR5.out.below HB6 HR5.out.lt)
 go_upto_region 24 with fail
 clear HB6 HC5 HO5 HM5 HX5 HR5
 generalize w5.alloc (.cells #[.int .i64 (decB data).1.gen,.int .i64 (decB data).1.cut,.int .i64 (decB data).1.fence,.slice pz.AE (decB data).1.E.length pz.cE,.slice pz.AM (decB data).1.M.length pz.cM,.slice pz.AO (decB data).1.O.length pz.cO] 53)=w6 at *
 have f27:=HC6.out.blk.frozen 27
 have y27:=HC6.out.blk.cell 27
 simp only [Ja,Jb,Jc] at y27
 have b_B:=(HC6.out.blk.set_ 27 (.int .i64 3))
 simp only [Jd,Je,Jf] at b_B
 have ho_B:Only g w6 (w6.setCell ⟨g,27,none⟩ (.int .i64 3)):=(Only.refl g w6).setCell (p:=⟨g,27,none⟩) (.inl rfl) (.int .i64 3)
 have HCB:Hid (DmAt (w6.setCell ⟨g,27,none⟩ (.int .i64 3)) base g { s with asked:=false,st:=3 } q pr pn):=Jh (HC6.out.put ho_B (s':={ s with asked:=false,st:=3 }) (pr':=pr) (pn':=pn) b_B rfl (HC6.out.read_ ho_B) (HC6.out.next_ ho_B))
 have HOB:=Jh (HO6.out.trans ho_B)
 have HRB:=Jh (ho_B.blk HR6.out (Ne.symm HN.out))
 clear b_B ho_B
 go_upto_region 25 with fail
 generalize (w6.setCell ⟨g,27,none⟩ (.int .i64 3))=w8 at *
 clear f27 y27
 have f28:=HCB.out.blk.frozen 28
 have y28:=HCB.out.blk.cell 28
 simp only [Ja,Jb,Jc] at y28
 have b_D:=(HCB.out.blk.set_ 28 (.int .i64 er5))
 simp only [Jd,Je,Jf] at b_D
 have ho_D:Only g w8 (w8.setCell ⟨g,28,none⟩ (.int .i64 er5)):=(Only.refl g w8).setCell (p:=⟨g,28,none⟩) (.inl rfl) (.int .i64 er5)
 have HCD:Hid (DmAt (w8.setCell ⟨g,28,none⟩ (.int .i64 er5)) base g { s with asked:=false,st:=3,er:=er5 } q pr pn):=Jh (HCB.out.put ho_D (s':={ s with asked:=false,st:=3,er:=er5 }) (pr':=pr) (pn':=pn) b_D rfl (HCB.out.read_ ho_D) (HCB.out.next_ ho_D))
 have HOD:=Jh (HOB.out.trans ho_D)
 clear b_D ho_D
 go_wp2
 go_ret
 exact ⟨rfl,_,_,by rw [hs9.out,← HE5.out];exact HCD.out,HOD.out⟩
end
noncomputable def takeD (s:Cst) (err:Int) (data:List UInt8) (ver now:Int):Cst :=
 if err=10∨err=9 then
  if (s.fails:Int)+1=s.tries then { s with asked:=false,writes:=false,fails:=s.fails+1,st:=3,er:=15 }
  else { s with asked:=false,writes:=false,fails:=s.fails+1,due:=now+s.wait*2 ^ s.fails }
 else if s.writes=true then
  if err=0 then { s with asked:=false,writes:=false,read:=s.next,st:=1 }
  else if err=8 then { s with asked:=false,writes:=false }
  else { s with asked:=false,writes:=false,st:=3,er:=err }
 else if err=7 then sawD { s with asked:=false } zeroM 0
 else if err≠0 then { s with asked:=false,st:=3,er:=err }
 else if (decB data).2≠0 then { s with asked:=false,st:=3,er:=(decB data).2 }
 else sawD { s with asked:=false } (decB data).1 ver
def Sim (s t:Cst):Prop:=∃ f d,t={ s with fails:=f,due:=d }∧(s.st=0→f=s.fails∧d=s.due)
theorem Sim.refl (s:Cst):Sim s s:=⟨s.fails,s.due,rfl,fun _=>⟨rfl,rfl⟩⟩
theorem Sim.eq {s t:Cst} (h:Sim s t) (h0:s.st=0):t=s:=by
 obtain ⟨f,d,rfl,h2⟩:=h
 obtain ⟨rfl,rfl⟩:=h2 h0
 rfl
structure Cin (s:Cst):Prop where
 g:Cgd s
 right:s.writes=true→qar s.next=true
theorem gd_of_right {m:Md} (h:qar m=true) (hk:∀ x∈m.E,x.Ok) (hs:Short m.E):Gd m:=⟨hs,hk,by have:=(qcb h).lenE;omega,by
 have:=qcv (l:=m.M) (a:=1) (b:=64) (qcb h).srtM (fun x hx=>(mk_in ((qcb h).mkM x hx)).1) (by omega)
 omega,by
 have:=qcv (l:=m.O) (a:=1) (b:=8) (qcb h).srtO (fun x hx=>(ow_in ((qcb h).owO x hx)).1) (by omega)
 omega⟩
theorem app_right {m:Md} {d:Ed} (h:appE m d=0):qar (appM m d)=true:=by
 rw [appM_ok h]
 exact right_iff.2 ((appE_zero.1 h).1.f.right (appE_zero.1 h).2)
theorem app_gd {m:Md} {d:Ed} (h:appE m d=0) (hm:Gd m) (hd:Ge d):Gd (appM m d):=by
 refine gd_of_right (app_right h) (fun x hx=>?_) (fun x hx=>?_)
 all_goals rw [appM_ok h] at hx;rcases (ents_mem.1 hx).1 with h1|h1
 ·exact hd.ok x h1
 ·exact hm.ok x h1.1
 ·exact hd.short x h1
 ·exact hm.short x h1.1
theorem en_part {x:En} (h:enB x=true):x.part.size≤100000:=by
 unfold enB at h
 simp only [Bool.and_eq_true] at h
 have:=parB_len h.1.1.1.1.1.1.1.1.1.1
 omega
theorem right_short {m:Md} (h:qar m=true):Short m.E:=fun x hx=>en_part ((qcb h).enE x hx)
theorem decT_two (t:List UInt8):((decT t).2=0→qar (decT t).1=true)∧((decT t).2≠0→(decT t).1=nilM):=by
 unfold decT
 rcases Nu.curBytes t 0 0 5 with ⟨hd,k,e⟩
 dsimp only
 rcases rdM t k e with ⟨m,k',e'⟩
 dsimp only
 split
 ·rename_i h;exact ⟨fun _=>h.2.2,fun h=>absurd rfl h⟩
 ·exact ⟨fun h=>absurd h (by decide),fun _=>rfl⟩
theorem decB_two (b:List UInt8):((decB b).2=0→qar (decB b).1=true)∧((decB b).2≠0→(decB b).1=nilM):=by
 unfold decB
 split
 ·rename_i h
  refine ⟨fun h2=>?_,fun _=>rfl⟩
  have h3:((Cr.copen b).2:Int)=0:=h2
  omega
 ·exact decT_two _
theorem decB_right {b:List UInt8} (h:(decB b).2=0):qar (decB b).1=true:=(decB_two b).1 h
theorem decB_no {b:List UInt8} (h:(decB b).2≠0):(decB b).1=nilM:=(decB_two b).2 h
theorem dec_gd (b:List UInt8):Gd (decB b).1:=by
 by_cases h:(decB b).2=0
 ·exact gd_of_right (decB_right h) (dec_good b).2.2.2 (right_short (decB_right h))
 ·have h2:=dec_good b
  exact ⟨by rw [decB_no h];exact fun x hx=>(by cases hx),h2.2.2.2,by omega,by omega,by omega⟩
theorem Cin.saw {s:Cst} (h:Cin s) (h0:s.st=0) (ha:s.asked=false) (hw:s.writes=false) {m:Md} (hm:Gd m) (ver:Int):Cin (sawS s m ver):=by
 obtain ⟨g,r⟩:=h
 unfold sawS
 split
 ·exact ⟨⟨g.ge,hm,g.next,g.tries,g.wait,fun h=>absurd h (by simp),fun h=>(by rw [show s.asked=true from h] at ha;cases ha),fun _=>rfl⟩,r⟩
 split
 ·exact ⟨⟨g.ge,hm,g.next,g.tries,g.wait,fun h=>absurd h (by simp),fun h=>(by rw [show s.asked=true from h] at ha;cases ha),fun h=>absurd h (by simp)⟩,r⟩
 ·rename_i h1 h2
  have h3:appE m s.d=0:=Classical.byContradiction fun h=>h2 h
  exact ⟨⟨g.ge,hm,app_gd h3 hm g.ge,g.tries,g.wait,g.fails,g.asked,g.er⟩,fun _=>app_right h3⟩
theorem Cin.take {s:Cst} (h:Cin s) (ha:s.asked=true) (err:Int) (data:List UInt8) (ver now:Int):Cin (takeS s err data ver now):=by
 have h0:=h.g.asked ha
 have he:=h.g.er h0
 have hf:=h.g.fails h0
 obtain ⟨g,r⟩:=h
 have hB:Cin { s with asked:=false,writes:=false }:=⟨⟨g.ge,g.read,g.next,g.tries,g.wait,g.fails,fun h=>(by cases h),g.er⟩,fun h=>(by cases h)⟩
 unfold takeS
 split
 ·refine ⟨⟨g.ge,g.read,g.next,g.tries,g.wait,fun h=>?_,fun h=>(by cases h),fun h=>?_⟩,fun h=>(by cases h)⟩
  ·dsimp only at h ⊢
   split at h
   ·cases h
   ·push_cast;omega
  ·dsimp only at h ⊢
   split at h
   ·cases h
   ·rw [if_neg (by assumption)];exact he
 split
 ·split
  ·exact ⟨⟨g.ge,g.next,g.next,g.tries,g.wait,fun h=>absurd h (by simp),fun h=>(by cases h),fun _=>rfl⟩,fun h=>(by cases h)⟩
  split
  ·exact hB
  ·exact ⟨⟨g.ge,g.read,g.next,g.tries,g.wait,fun h=>absurd h (by simp),fun h=>(by cases h),fun h=>absurd h (by simp)⟩,fun h=>(by cases h)⟩
 split
 ·exact hB.saw h0 rfl rfl Gd.zero 0
 split
 ·exact ⟨⟨g.ge,g.read,g.next,g.tries,g.wait,fun h=>absurd h (by simp),fun h=>(by cases h),fun h=>absurd h (by simp)⟩,fun h=>(by cases h)⟩
 split
 ·exact ⟨⟨g.ge,g.read,g.next,g.tries,g.wait,fun h=>absurd h (by simp),fun h=>(by cases h),fun h=>absurd h (by simp)⟩,fun h=>(by cases h)⟩
 ·exact hB.saw h0 rfl rfl (dec_gd data) ver
theorem saw_sim {s t:Cst} (hst:t=s) (he:s.er=0) (m:Md) (ver:Int):Sim (sawS s m ver) (sawD t m ver):=by
 subst hst
 unfold sawS sawD
 split
 ·refine ⟨t.fails,t.due,?_,fun _=>⟨rfl,rfl⟩⟩
  rw [he]
 split
 ·exact ⟨t.fails,t.due,rfl,fun _=>⟨rfl,rfl⟩⟩
 ·exact ⟨t.fails,t.due,rfl,fun _=>⟨rfl,rfl⟩⟩
theorem take_sim {s t:Cst} (h:Cin s) (hs:Sim s t) (ha:s.asked=true) (err:Int) (data:List UInt8) (ver now:Int):Sim (takeS s err data ver now) (takeD t err data ver now):=by
 have h0:=h.g.asked ha
 have he:=h.g.er h0
 have hf:=h.g.fails h0
 obtain rfl:=hs.eq h0
 unfold takeS takeD
 split
 ·by_cases h1:(t.fails:Int)+1=t.tries
  ·rw [if_pos h1,if_pos (by omega),if_pos (by omega)]
   exact ⟨_,_,rfl,fun h=>absurd h (by simp)⟩
  ·rw [if_neg h1,if_neg (by omega),if_neg (by omega)]
   exact Sim.refl _
 split
 ·split
  ·exact ⟨t.fails,t.due,by rw [he],fun _=>⟨rfl,rfl⟩⟩
  split
  ·exact Sim.refl _
  ·exact Sim.refl _
 have hw:t.writes=false:=by simpa using ‹¬ t.writes=true›
 have hx:({ t with asked:=false }:Cst)={ t with asked:=false,writes:=false }:=by rw [← hw]
 rw [hx]
 split
 ·exact saw_sim (s:={ t with asked:=false,writes:=false }) rfl he _ _
 split
 ·exact ⟨t.fails,t.due,by rw [← hw],fun _=>⟨rfl,rfl⟩⟩
 split
 ·exact ⟨t.fails,t.due,by rw [← hw],fun _=>⟨rfl,rfl⟩⟩
 ·exact saw_sim (s:={ t with asked:=false,writes:=false }) rfl he _ _
set_option maxRecDepth 100000 in
set_option maxHeartbeats 3200000 in
theorem didR_of (w:World) {B:Nat} {m:Md} {p:Pl} (h:Man w B m p) (hB:B≤w.heap.size) (y:Ow):Calls Tryz.prog 25 #[mdV m p,owV y] w fun e w'=>e=.returned (.bool (m.O.any (didB y)))∧Below w.heap.size w w':=by
 have HT:Hid (∀ W,Below (w.heap.size+2) ((w.alloc (.cells #[.int .i64 m.gen,.int .i64 m.cut,.int .i64 m.fence,.slice p.AE m.E.length p.cE,.slice p.AM m.M.length p.cM,.slice p.AO m.O.length p.cO] 53)).alloc (.cells #[.int .i64 y.agent,.int .i64 y.life,.int .i64 y.count] 26)) W→(W.cell? ⟨w.heap.size,0,none⟩=some (.int .i64 m.gen)∧W.cell? ⟨w.heap.size,1,none⟩=some (.int .i64 m.cut)∧W.cell? ⟨w.heap.size,2,none⟩=some (.int .i64 m.fence)∧W.cell? ⟨w.heap.size,3,none⟩=some (.slice p.AE m.E.length p.cE)∧W.cell? ⟨w.heap.size,4,none⟩=some (.slice p.AM m.M.length p.cM)∧W.cell? ⟨w.heap.size,5,none⟩=some (.slice p.AO m.O.length p.cO))∧W.cell? ⟨(w.heap.size+1),0,none⟩=some (.int .i64 y.agent)∧W.cell? ⟨(w.heap.size+1),1,none⟩=some (.int .i64 y.life)∧W.cell? ⟨(w.heap.size+1),2,none⟩=some (.int .i64 y.count)):=Jh fun W hW=>by
  have h1:=(((Blk.new w 53 #[.int .i64 m.gen,.int .i64 m.cut,.int .i64 m.fence,.slice p.AE m.E.length p.cE,.slice p.AM m.M.length p.cM,.slice p.AO m.O.length p.cO]).alloc (.cells #[.int .i64 y.agent,.int .i64 y.life,.int .i64 y.count] 26)).below hW (by omega))
  have h2:=Blk.new (w.alloc (.cells #[.int .i64 m.gen,.int .i64 m.cut,.int .i64 m.fence,.slice p.AE m.E.length p.cE,.slice p.AM m.M.length p.cM,.slice p.AO m.O.length p.cO] 53)) 26 #[.int .i64 y.agent,.int .i64 y.life,.int .i64 y.count]
  rw [World.size_alloc] at h2
  have h3:=Blk.below h2 hW (by omega)
  exact ⟨⟨h1.cell 0,h1.cell 1,h1.cell 2,h1.cell 3,h1.cell 4,h1.cell 5⟩,⟨h3.cell 0,h3.cell 1,h3.cell 2⟩⟩
 have HB0:Hid (∀ W,Below (w.heap.size+2) ((w.alloc (.cells #[.int .i64 m.gen,.int .i64 m.cut,.int .i64 m.fence,.slice p.AE m.E.length p.cE,.slice p.AM m.M.length p.cM,.slice p.AO m.O.length p.cO] 53)).alloc (.cells #[.int .i64 y.agent,.int .i64 y.life,.int .i64 y.count] 26)) W→Below w.heap.size w W∧w.heap.size+2≤W.heap.size):=Jh fun W hW=>⟨(((Below.refl w.heap.size w).alloc (Nat.le_refl _) _).alloc (by simp) _).trans (hW.mono (by omega)),by have:=hW.size;simp at this;omega⟩
 have HR:=Jh fun W (hW:Below w.heap.size w W)=>h.ro.below (hW.mono hB)
 have hle:=h.lo
 clear h
 obtain ⟨AE,cE,AM,cM,AO,cO⟩:=p
 dsimp only at *
 have HW:=Jh (Below.refl (w.heap.size+2) ((w.alloc (.cells #[.int .i64 m.gen,.int .i64 m.cut,.int .i64 m.fence,.slice AE m.E.length cE,.slice AM m.M.length cM,.slice AO m.O.length cO] 53)).alloc (.cells #[.int .i64 y.agent,.int .i64 y.life,.int .i64 y.count] 26)))
 go_enter Tryz.func25,Tryz.ntmps25
 go_wp2
 generalize (w.alloc (.cells #[.int .i64 m.gen,.int .i64 m.cut,.int .i64 m.fence,.slice AE m.E.length cE,.slice AM m.M.length cM,.slice AO m.O.length cO] 53)).alloc (.cells #[.int .i64 y.agent,.int .i64 y.life,.int .i64 y.count] 26)=wm at *
 go_loopw [10] (fun i wr=>∃ j:Nat,j≤m.O.length∧i=.int .i64 (j:Int)∧Hid (∀ i,i<j→didB y (gt m.O i)=false)∧Hid (Below (w.heap.size+2) wm wr)) (fun i _=>m.O.length-(intOf i).toNat)
 case atStart=>exact ⟨0,Nat.zero_le _,rfl,Jh (fun i hi=>absurd hi (Nat.not_lt_zero i)),HW⟩
 case round =>
  clear HW
  obtain ⟨j,hj,rfl,HF,HW⟩:=hrel
  obtain ⟨hb00,hsz⟩:=HB0.out wr HW.out
  obtain ⟨-,z0,z1,z2⟩:=HT.out wr HW.out
  have hg1:w.heap.size+1<wr.heap.size:=by omega
  by_cases hlt:j<m.O.length
  ·have hr:=HR.out wr hb00
   obtain ⟨b,off,rfl,hbB⟩:=qai hr (by omega)
   obtain ⟨p0,p1,p2⟩:wr.cell? ⟨b,off+j*3,none⟩=some (.int .i64 (gt m.O j).agent)∧wr.cell? ⟨b,off+j*3+1,none⟩=some (.int .i64 (gt m.O j).life)∧wr.cell? ⟨b,off+j*3+2,none⟩=some (.int .i64 (gt m.O j).count):=⟨qab qao hr hlt (j:=0) rfl,qab qao hr hlt (j:=1) rfl,qab qao hr hlt (j:=2) rfl⟩
   have HE:Hid (Below (w.heap.size+2) wm (wr.alloc (.cells #[.int .i64 (gt m.O j).agent,.int .i64 (gt m.O j).life,.int .i64 (gt m.O j).count] 26))):=Jh (HW.out.alloc hsz _)
   have HNo:Hid (didB y (gt m.O j)=true→m.O.any (didB y)=true):=Jh fun hh=>qbj (p:=didB y) hlt hh
   have HY:=Jh (fun hh=>qa8 (p:=didB y) HF.out hh)
   have HX:Hid (didB y (gt m.O j)=(decide ((gt m.O j).agent=y.agent)&&decide ((gt m.O j).life=y.life)&&decide (y.count≤(gt m.O j).count))):=Jh rfl
   clear hr HF
   generalize gt m.O j=x at *
   by_cases e0:x.agent=y.agent
   ·have te0:(x.agent == y.agent)=true:=eqt e0
    by_cases e1:x.life=y.life
    ·have te1:(x.life == y.life)=true:=eqt e1
     by_cases e2:y.count≤x.count
     ·have te2:decide (y.count≤x.count)=true:=dct e2
      have HV:=Jh (HNo.out (by rw [HX.out,dct e0,dct e1,dct e2];rfl))
      clear e0 e1 e2 HX HNo HY
      go_wp2
      go_ret
      exact ⟨by rw [HV.out];rfl,(HB0.out _ HE.out).1⟩
     ·have te2:decide (y.count≤x.count)=false:=dcf e2
      have HY2:=Jh (HY.out (by rw [HX.out,dcf e2];simp))
      (try clear e0);(try clear e1);(try clear e2)
      clear HX HNo HY
      go_wp2
      go_roundw
      case rel=>exact ⟨j+1,by omega,by go_num,HY2,HE⟩
      case measure=>simp [intOf];omega
    ·have te1:(x.life == y.life)=false:=eqf e1
     have HY2:=Jh (HY.out (by rw [HX.out,dcf e1];simp))
     (try clear e0);(try clear e1);(try clear e2)
     clear HX HNo HY
     go_wp2
     go_roundw
     case rel=>exact ⟨j+1,by omega,by go_num,HY2,HE⟩
     case measure=>simp [intOf];omega
   ·have te0:(x.agent == y.agent)=false:=eqf e0
    have HY2:=Jh (HY.out (by rw [HX.out,dcf e0];simp))
    (try clear e0);(try clear e1);(try clear e2)
    clear HX HNo HY
    go_wp2
    go_roundw
    case rel=>exact ⟨j+1,by omega,by go_num,HY2,HE⟩
    case measure=>simp [intOf];omega
  obtain rfl:j=m.O.length:=by omega
  have HV:Hid (m.O.any (didB y)=false):=Jh (qb8 HF.out)
  go_wp2
  go_ret
  exact ⟨by rw [HV.out];rfl,hb00⟩
set_option maxRecDepth 100000 in
set_option maxHeartbeats 3200000 in
theorem cfew_calls (w:World) {B:Nat} {x:Ed} {q:Pd} (h:Edi w B x q) (hB:B≤w.heap.size) :
  Calls Tryz.prog 8 #[edV x q] w fun e w'=>∃ b,e=.returned (.bool b)∧(b=true→Ge x)∧Below w.heap.size w w':=by
 have hbk:=Blk.new w 28 #[.slice q.AA x.add.length q.cA,.slice q.AD x.drop.length q.cD,.slice q.AM x.marks.length q.cM,.int .i64 x.cut,.int .i64 x.fence,.int .i64 x.by_.agent,.int .i64 x.by_.life,.int .i64 x.by_.count]
 have z0:=hbk.cell 0
 have z1:=hbk.cell 1
 have z2:=hbk.cell 2
 simp only [Ja,Jb,Jc] at z0 z1 z2
 have HB1:Hid (Below w.heap.size w (w.alloc (.cells #[.slice q.AA x.add.length q.cA,.slice q.AD x.drop.length q.cD,.slice q.AM x.marks.length q.cM,.int .i64 x.cut,.int .i64 x.fence,.int .i64 x.by_.agent,.int .i64 x.by_.life,.int .i64 x.by_.count] 28))):=Jh ((Below.refl _ _).alloc (Nat.le_refl _) _)
 have HE:=Jh h
 have la:=h.la
 clear h hbk
 by_cases h1:30<x.add.length
 ·have d1:decide ((30:Int)<(x.add.length:Int))=true:=dct (by omega)
  go_enter Tryz.func8,Tryz.ntmps8
  go_wp2
  go_ret
  exact ⟨false,rfl,fun h=>(by cases h),HB1.out⟩
 have d1:decide ((30:Int)<(x.add.length:Int))=false:=dcf (by omega)
 by_cases h2:30<x.drop.length
 ·have d2:decide ((30:Int)<(x.drop.length:Int))=true:=dct (by omega)
  go_enter Tryz.func8,Tryz.ntmps8
  go_wp2
  go_ret
  exact ⟨false,rfl,fun h=>(by cases h),HB1.out⟩
 have d2:decide ((30:Int)<(x.drop.length:Int))=false:=dcf (by omega)
 by_cases h3:70<x.marks.length
 ·have d3:decide ((70:Int)<(x.marks.length:Int))=true:=dct (by omega)
  go_enter Tryz.func8,Tryz.ntmps8
  go_wp2
  go_ret
  exact ⟨false,rfl,fun h=>(by cases h),HB1.out⟩
 have d3:decide ((70:Int)<(x.marks.length:Int))=false:=dcf (by omega)
 have HT:Hid ((∀ k,k<x.add.length→(gt x.add k).part.size≤100000)→Ge x):=Jh fun h=>⟨fun y hy=>(by obtain ⟨i,hi,rfl⟩:=qd0 hy;exact h i hi),HE.out.ok,HE.out.okd,by omega,by omega,by omega⟩
 have HP0:Hid (∀ k,k<0→(gt x.add k).part.size≤100000):=Jh fun k hk=>absurd hk (Nat.not_lt_zero k)
 have l1:x.add.length≤30:=by omega
 clear h1 h2 h3
 go_enter Tryz.func8,Tryz.ntmps8
 go_wp2
 go_loopw [24] (fun vi wr=>∃ i:Nat,i≤x.add.length∧vi=.int .i64 (i:Int)∧Hid (∀ k,k<i→(gt x.add k).part.size≤100000)∧Hid (Below w.heap.size w wr)) (fun vi _=>x.add.length-(intOf vi).toNat)
 case atStart=>exact ⟨0,Nat.zero_le _,rfl,HP0,HB1⟩
 case round =>
  clear HP0
  obtain ⟨i,hi,rfl,HP,HBr⟩:=hrel
  clear z0 z1 z2
  by_cases hlt:i<x.add.length
  ·obtain ⟨b,off,hA,hbB,hc⟩:=row_at qac ((HE.out.below (HBr.out.mono hB)).ra) (by omega)
   have hci:=hc i hlt
   have HN:Hid ((gt x.add i).part.size≤100000→∀ k,k<i+1→(gt x.add k).part.size≤100000):=Jh fun h k hk=>by
    by_cases e:k=i
    ·rw [e];exact h
    ·exact HP.out k (by omega)
   generalize gt x.add i=y at *
   have p0:=hci 0 _ rfl
   have p1:=hci 1 _ rfl
   have p2:=hci 2 _ rfl
   have p3:=hci 3 _ rfl
   have p4:=hci 4 _ rfl
   have p5:=hci 5 _ rfl
   have p6:=hci 6 _ rfl
   have p7:=hci 7 _ rfl
   have p8:=hci 8 _ rfl
   rw [Nat.add_zero] at p0
   clear hc hci
   have i0:(0:Int)≤(i:Int):=by omega
   have i9:(i:Int)<(x.add.length:Int):=by omega
   have hsz:=HBr.out.size
   have HB2:Hid (Below w.heap.size w (wr.alloc (.cells #[.string y.key,.int .i64 y.window,.string y.part,.int .i64 y.first,.int .i64 y.last,.int .i64 y.rows,.int .i64 y.size,.int .u32 y.sum,.int .i64 y.born] 85))):=Jh (HBr.out.alloc hsz _)
   rw [hA]
   by_cases k1:100<y.key.size
   ·have e1:decide ((100:Int)<(y.key.size:Int))=true:=dct (by omega)
    go_wp2
    go_ret
    exact ⟨false,rfl,fun h=>(by cases h),HB2.out⟩
   have e1:decide ((100:Int)<(y.key.size:Int))=false:=dcf (by omega)
   by_cases k2:600<y.part.size
   ·have e2:decide ((600:Int)<(y.part.size:Int))=true:=dct (by omega)
    go_wp2
    go_ret
    exact ⟨false,rfl,fun h=>(by cases h),HB2.out⟩
   have e2:decide ((600:Int)<(y.part.size:Int))=false:=dcf (by omega)
   have HN2:=Jh (HN.out (by omega))
   clear HN HP
   go_wp2
   go_roundw
   case rel=>exact ⟨i+1,by omega,by go_num,HN2,HB2⟩
   case measure=>simp [intOf];omega
  ·obtain rfl:i=x.add.length:=by omega
   go_wp2
   go_ret
   exact ⟨true,rfl,fun _=>HT.out HP.out,HBr.out⟩
def liveE:Ed:=⟨[],[],[],0,0,⟨1,1,1⟩⟩
def liveP:Pd:=⟨none,0,none,0,none,0⟩
theorem liveEdi (w:World):Edi w 0 liveE liveP:=⟨Reads.none_,Reads.none_,Reads.none_,Nat.zero_le _,Nat.zero_le _,Nat.zero_le _,Nat.zero_le _,Nat.zero_le _,Nat.zero_le _,fun x hx=>(by cases hx),fun x hx=>(by cases hx)⟩
theorem liveGe:Ge liveE:=⟨fun x hx=>(by cases hx),fun x hx=>(by cases hx),fun x hx=>(by cases hx),by decide,by decide,by decide⟩
set_option maxRecDepth 100000 in
set_option maxHeartbeats 3200000 in
theorem qdc (w:World):Calls Tryz.prog 7 #[] w fun e w'=>e=.returned (.bool true)∧Below w.heap.size w w':=by
 have HN:=Jh (newP_calls w (liveEdi w) (Nat.zero_le _) liveGe 2 1 (by omega) (by omega) (by omega) (by omega))
 go_enter Tryz.func7,Tryz.ntmps7
 go_wp2_with fail
 refine HN.out.mono ?_
 rintro e w1 ⟨g,V,rfl,hbk,hb1⟩
 have hg:=hbk.low
 have HX:=Jh (next_get w1 hbk 0 rfl rfl)
 clear HN hbk
 go_wp2_with fail
 refine HX.out.mono ?_
 rintro e w2 ⟨rfl,hbk2,ho2⟩
 have hb2:Below w.heap.size w w2:=hb1.trans (ho2.below hg hb1.size)
 have hbk3:=hbk2.below ((Below.refl _ _).alloc (Nat.le_refl _) (.cells qen 35))
 have HS:=Jh (qex _ hbk3)
 clear hbk2 hbk3 HX ho2
 go_wp2_with fail
 refine HS.out.mono ?_
 rintro e w3 ⟨rfl,hb3⟩
 have hc:=(Blk.new w2 35 qen).below hb3 (by simp)
 have c0:=hc.cell 0
 have c1:=hc.cell 1
 simp only [Ja,Jb,Jc] at c0 c1
 have HB3:Hid (Below w.heap.size w w3):=Jh ((hb2.alloc hb2.size _).trans (hb3.mono (by have:=hb2.size;simp;omega)))
 clear hc hb3 hb2 HS
 go_wp2
 go_ret
 exact ⟨rfl,HB3.out⟩
abbrev callC (k:Int) (key:ByteArray) (A:Option Addr) (n c:Nat) (ver:Int):Array Value:=#[.int .i64 k,.string key,.slice A n c,.int .i64 ver,.int .i64 0,.int .i64 0,.int .i64 0]
abbrev manK:ByteArray:=⟨#[109,97,110,105,102,101,115,116]⟩
set_option maxRecDepth 100000 in
theorem sameCall_calls (w:World) {B1 B2 n c1 c2:Nat} {A1 A2:Option Addr} {l:List UInt8} (h1:Bytes w B1 A1 n l) (h2:Bytes w B2 A2 n l) (hB1:B1≤w.heap.size) (hB2:B2≤w.heap.size) (k:Int) (key:ByteArray) (ver:Int) :
  Calls Tryz.prog 17 #[.agg (callC k key A1 n c1 ver),.agg (callC k key A2 n c2 ver)] w fun e w'=>e=.returned (.bool true)∧Below w.heap.size w w':=by
 have hw:Below w.heap.size w ((w.alloc (.cells (callC k key A1 n c1 ver) 35)).alloc (.cells (callC k key A2 n c2 ver) 35)):=((Below.refl w.heap.size w).alloc (Nat.le_refl _) _).alloc (by simp) _
 have k1:=(h1.below (hw.mono hB1)).conv Tryz.prog c1 33 5 9 Tryz.underlying33 Tryz.underlying5 Tryz.underlying9
 have k2:=(h2.below (hw.mono hB2)).conv Tryz.prog c2 33 5 9 Tryz.underlying33 Tryz.underlying5 Tryz.underlying9
 have x1:(k == k)=true:=beq_self_eq_true _
 have x2:(key.toList == key.toList)=true:=beq_self_eq_true _
 have x3:((⟨l.toArray⟩:ByteArray).toList == (⟨l.toArray⟩:ByteArray).toList)=true:=beq_self_eq_true _
 have x4:(ver == ver)=true:=beq_self_eq_true _
 have HW:=Jh hw
 clear h1 h2 hw
 go_enter Tryz.func17,Tryz.ntmps17
 go_wp2
 go_ret
 exact ⟨rfl,HW.out⟩
end Go.Proofs.YtibnehaibgbliaaGreat.Mf
