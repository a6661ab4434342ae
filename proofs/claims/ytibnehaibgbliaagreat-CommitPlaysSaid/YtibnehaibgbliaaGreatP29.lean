/- Laws for the row's walk. -/
import Derived.Test.YtibnehaibgbliaaGreatP21
import Derived.Test.YtibnehaibgbliaaGreatP25
import Derived.Test.YtibnehaibgbliaaGreatP26
import Derived.Test.YtibnehaibgbliaaGreatP28
set_option linter.unusedVariables false
set_option linter.unusedSimpArgs false
open Go.Lib renaming hid → Jh
open List renaming getElem?_toArray → Ja, getElem?_cons_zero → Jb, getElem?_cons_succ → Jc, setIfInBounds_toArray → Jd, set_cons_zero → Je, set_cons_succ → Jf
namespace Go.Proofs.YtibnehaibgbliaaGreat.Mf
open Go.RowKit Go.Proofs.YtibnehaibgbliaaGreat
noncomputable def nextC (s:Cst) (now:Int):Int × ByteArray × List UInt8 × Int :=
 if nextB s now=true then (if s.writes=true then (2,manK,encB s.next,s.ver) else (3,manK,[],0)) else (0,⟨#[]⟩,[],0)
def nextS (s:Cst) (now:Int):Cst:=if nextB s now=true then { s with asked:=true } else s
def RetNext (K:World→Cst→Prop) (w:World) (g:Nat) (s:Cst) (now:Int) (e:Ending) (w':World):Prop :=
 ∃ A c,e=.returned (.tuple #[.agg (callC (nextC s now).1 (nextC s now).2.1 A (nextC s now).2.2.1.length c (nextC s now).2.2.2),.bool (nextB s now)])∧w'.ownsRow w.heap.size 5 1 (.slice A (nextC s now).2.2.1.length c) (nextC s now).2.2.1.length ((nextC s now).2.2.1.map byteV)∧K w' (nextS s now)∧Only g w w'
section
variable {base g:Nat} {s:Cst} {q:Pd} {pr pn:Pl}
theorem nextP_any (hb0:0<base) (w:World) (hm:Sh w) (h:CmAt w base g s q pr pn) (hi:Cin s) (now:Int) :
  Calls Tryz.prog 10 #[.pointer (some ⟨g,0,none⟩),.int .i64 now] w (RetNext (fun w' s'=>CmAt w' base g s' q pr pn) w g s now):=by
 cases hn:nextB s now
 ·refine (next_no w h now hn).mono ?_
  rintro e w' ⟨rfl,hb⟩
  have e1:nextC s now=(0,⟨#[]⟩,[],0):=by unfold nextC;rw [hn];rfl
  have e2:nextS s now=s:=by unfold nextS;rw [hn];rfl
  exact ⟨none,0,by rw [e1,hn];rfl,by rw [e1];exact World.ownsRow_nil _ _ _ _,by rw [e2];exact h.below hb,Only.of_below hb⟩
 cases hw:s.writes
 ·refine (next_get w h now hn hw).mono ?_
  rintro e w' ⟨rfl,hc,ho⟩
  have e1:nextC s now=(3,manK,[],0):=by unfold nextC;rw [hn,hw];rfl
  have e2:nextS s now={ s with asked:=true }:=by unfold nextS;rw [hn];rfl
  exact ⟨none,0,by rw [e1,hn];rfl,by rw [e1];exact World.ownsRow_nil _ _ _ _,by rw [e2];exact hc,ho⟩
 ·have hr:=hi.right hw
  refine (next_put (enc:=encD) (er:=encEr) (fun w B m p h hB hs hm=>enc_calls w h hB hs hm) hb0 w h now hn hw hi.g.next hm).mono ?_
  rintro e w' ⟨A,c,rfl,hown,hc,ho⟩
  have he:encD s.next=encB s.next:=by unfold encD;rw [if_pos hr]
  rw [he] at hown ⊢
  have e1:nextC s now=(2,manK,encB s.next,s.ver):=by unfold nextC;rw [hn,hw];rfl
  have e2:nextS s now={ s with asked:=true }:=by unfold nextS;rw [hn];rfl
  exact ⟨A,c,by rw [e1,hn],by rw [e1];exact hown,by rw [e2];exact hc,ho⟩
theorem nextR_any (w:World) (h:DmAt w base g s q pr pn) (hi:Cin s) (now:Int) :
  Calls Tryz.prog 16 #[.pointer (some ⟨g,0,none⟩),.int .i64 now] w (RetNext (fun w' s'=>DmAt w' base g s' q pr pn) w g s now):=by
 cases hn:nextB s now
 ·refine (nextR_no w h now hn).mono ?_
  rintro e w' ⟨rfl,hb⟩
  have e1:nextC s now=(0,⟨#[]⟩,[],0):=by unfold nextC;rw [hn];rfl
  have e2:nextS s now=s:=by unfold nextS;rw [hn];rfl
  exact ⟨none,0,by rw [e1,hn];rfl,by rw [e1];exact World.ownsRow_nil _ _ _ _,by rw [e2];exact h.below hb,Only.of_below hb⟩
 cases hw:s.writes
 ·refine (nextR_get w h now hn hw).mono ?_
  rintro e w' ⟨rfl,hc,ho⟩
  have e1:nextC s now=(3,manK,[],0):=by unfold nextC;rw [hn,hw];rfl
  have e2:nextS s now={ s with asked:=true }:=by unfold nextS;rw [hn];rfl
  exact ⟨none,0,by rw [e1,hn];rfl,by rw [e1];exact World.ownsRow_nil _ _ _ _,by rw [e2];exact hc,ho⟩
 ·have hr:=hi.right hw
  refine (nextR_put (enc:=encB) (ok:=fun m=>m.In) (fun w B m p h hB hm=>(encR_calls w h hB hm).mono fun e w' he=>by
   obtain ⟨A,c,rfl,-,-,-,hb,ho⟩:=he.opened
   exact ⟨A,c,rfl,ho,hb⟩) w h now hn hw hi.g.next (right_in hr hi.g.next.ok)).mono ?_
  rintro e w' ⟨A,c,rfl,hown,hc,ho⟩
  have e1:nextC s now=(2,manK,encB s.next,s.ver):=by unfold nextC;rw [hn,hw];rfl
  have e2:nextS s now={ s with asked:=true }:=by unfold nextS;rw [hn];rfl
  exact ⟨A,c,by rw [e1,hn],by rw [e1];exact hown,by rw [e2];exact hc,ho⟩
def RetTk (K:World→Cst→Prop) (w:World) (g:Nat) (s':Cst) (v:Value) (e:Ending) (w':World):Prop:=e=.returned v∧K w' s'∧Only g w w'
noncomputable def takeT (f:Cst→Int→List UInt8→Int→Int→Cst) (s:Cst) (err:Int) (data:List UInt8) (ver now:Int):Cst:=if s.asked=true then f s err data ver now else s
theorem qea (hb0:0<base) (w:World) (hm:Sh w) (h:CmAt w base g s q pr pn) (hi:Cin s) (A:Option Addr) (c:Nat) (ver:Int) (r3 r4 r5 r6:Value) (now:Int) (err:Int) (data:List UInt8) (hbt:∀ w',Only g w w'→Bytes w' w'.heap.size A data.length data) (hnc:data.length≤c) (hn:data.length≤1000000) (h0:0≤now) (h9:now≤1099511627776) :
  Calls Tryz.prog 11 #[.pointer (some ⟨g,0,none⟩),.agg (repA err A data.length c ver r3 r4 r5 r6),.int .i64 now] w (RetTk (fun w' s'=>∃ pr pn,CmAt w' base g s' q pr pn) w g (takeT takeS s err data ver now) (.int .i64 (if s.asked=true then 0 else 1))):=by
 have hap:ApplyC:=fun w B m p d q h1 h2 h3 h4 h5 h6=>apply_calls w h1 h2 h3 h4 h5 h6
 have hdc:DecC:=fun w B n c A s h1 h2 h3 h4 h5=>dec_calls w h1 h2 h3 h4 h5
 unfold takeT
 cases ha:s.asked
 ·refine (take_no w h ha (.int .i64 err) (.slice A data.length c) (.int .i64 ver) r3 r4 r5 r6 now).mono ?_
  rintro e w' ⟨rfl,hb⟩
  exact ⟨rfl,⟨pr,pn,h.below hb⟩,Only.of_below hb⟩
 simp only [if_true]
 have hst:=hi.g.asked ha
 have hf:=hi.g.fails hst
 have ht:=hi.g.tries
 have fin:∀ {s':Cst},takeS s err data ver now=s'→Calls Tryz.prog 11 #[.pointer (some ⟨g,0,none⟩),.agg (repA err A data.length c ver r3 r4 r5 r6),.int .i64 now] w (qcw w base g s' q)→Calls Tryz.prog 11 #[.pointer (some ⟨g,0,none⟩),.agg (repA err A data.length c ver r3 r4 r5 r6),.int .i64 now] w (RetTk (fun w' s'=>∃ pr pn,CmAt w' base g s' q pr pn) w g (takeS s err data ver now) (.int .i64 0)):=by
  rintro s' rfl hc
  refine hc.mono ?_
  rintro e w' ⟨rfl,pr',pn',h1,h2⟩
  exact ⟨rfl,⟨pr',pn',h1⟩,h2⟩
 by_cases hnet:err=10∨err=9
 ·refine fin ?_ (take_net w h ha A data.length c ver r3 r4 r5 r6 now err (Jh hnet) (by omega) h0 h9 hi.g.wait (if s.tries≤(s.fails:Int)+1 then 3 else s.st) (if s.tries≤(s.fails:Int)+1 then 15 else s.er) (Jh fun h=>by rw [if_pos h,if_pos h];exact ⟨rfl,rfl⟩) (Jh fun h=>by rw [if_neg h,if_neg h];exact ⟨rfl,rfl⟩) s.writes rfl)
  unfold takeS
  rw [if_pos hnet]
 cases hw:s.writes
 ·by_cases h7:err=7
  ·refine fin ?_ (take_none hap hb0 hi.g.ge w hm h ha hw A data.length c ver r3 r4 r5 r6 now err (Jh h7))
   unfold takeS
   rw [if_neg hnet,if_neg (by rw [hw];decide),if_pos h7]
  by_cases h00:err=0
  ·by_cases hd:(decB data).2=0
   ·refine fin ?_ (take_read hap hdc hb0 hi.g.ge w hm h ha hw A data.length c ver r3 r4 r5 r6 now err (Jh h00) data (Jh hbt) hnc hn (dec_gd data) (Jh hd))
    unfold takeS
    rw [if_neg hnet,if_neg (by rw [hw];decide),if_neg h7,if_neg (by simpa using h00),if_neg (by simpa using hd)]
   ·refine fin ?_ (take_garb hap hdc hb0 hi.g.ge w hm h ha hw A data.length c ver r3 r4 r5 r6 now err (Jh h00) data (Jh hbt) hnc hn (dec_gd data) (Jh hd))
    unfold takeS
    rw [if_neg hnet,if_neg (by rw [hw];decide),if_neg h7,if_neg (by simpa using h00),if_pos hd]
  ·refine fin ?_ (take_rfail w h ha hw A data.length c ver r3 r4 r5 r6 now err (fun e=>hnet (.inl e)) (fun e=>hnet (.inr e)) h7 h00)
   unfold takeS
   rw [if_neg hnet,if_neg (by rw [hw];decide),if_neg h7,if_pos h00]
 ·by_cases h00:err=0
  ·refine fin ?_ (take_done w h ha hw A data.length c ver r3 r4 r5 r6 now err (Jh h00))
   unfold takeS
   rw [if_neg hnet,if_pos hw,if_pos h00]
  by_cases h8:err=8
  ·refine fin ?_ (take_vers w h ha hw A data.length c ver r3 r4 r5 r6 now err (Jh h8))
   unfold takeS
   rw [if_neg hnet,if_pos hw,if_neg h00,if_pos h8]
  ·refine fin ?_ (take_wfail w h ha hw A data.length c ver r3 r4 r5 r6 now err (fun e=>hnet (.inl e)) (fun e=>hnet (.inr e)) h8 h00)
   unfold takeS
   rw [if_neg hnet,if_pos hw,if_neg h00,if_neg h8]
theorem qeb (w:World) (h:DmAt w base g s q pr pn) (hi:Cin s) (A:Option Addr) (c:Nat) (ver:Int) (r3 r4 r5 r6:Value) (now:Int) (err:Int) (data:List UInt8) (hbt:∀ w',Only g w w'→Bytes w' w'.heap.size A data.length data) (hnc:data.length≤c) (hn:data.length≤1000000) (h0:0≤now) (h9:now≤1099511627776) :
  Calls Tryz.prog 20 #[.pointer (some ⟨g,0,none⟩),.agg (repA err A data.length c ver r3 r4 r5 r6),.int .i64 now] w (RetTk (fun w' s'=>∃ pr pn,DmAt w' base g s' q pr pn) w g (takeT takeD s err data ver now) (.bool s.asked)):=by
 have hap:ApplyRC:=fun w B m p d q h1 h2 h3 h4 h5 h6=>applyR_calls w h1 h2 h3 h4 h5 h6
 have hdc:DecRC:=fun w B n c A s h1 h2 h3 h4=>decR_calls w h1 h2 h3 h4
 have hdid:DidRC:=fun w B m p h1 h2 y=>didR_of w h1 h2 y
 unfold takeT
 cases ha:s.asked
 ·refine (takeR_no w h ha (.int .i64 err) (.slice A data.length c) (.int .i64 ver) r3 r4 r5 r6 now).mono ?_
  rintro e w' ⟨rfl,hb⟩
  exact ⟨rfl,⟨pr,pn,h.below hb⟩,Only.of_below hb⟩
 simp only [if_true]
 have hst:=hi.g.asked ha
 have hf:=hi.g.fails hst
 have ht:=hi.g.tries
 have fin:∀ {s':Cst},takeD s err data ver now=s'→Calls Tryz.prog 20 #[.pointer (some ⟨g,0,none⟩),.agg (repA err A data.length c ver r3 r4 r5 r6),.int .i64 now] w (qb0 w base g s' q)→Calls Tryz.prog 20 #[.pointer (some ⟨g,0,none⟩),.agg (repA err A data.length c ver r3 r4 r5 r6),.int .i64 now] w (RetTk (fun w' s'=>∃ pr pn,DmAt w' base g s' q pr pn) w g (takeD s err data ver now) (.bool true)):=by
  rintro s' rfl hc
  refine hc.mono ?_
  rintro e w' ⟨rfl,pr',pn',h1,h2⟩
  exact ⟨rfl,⟨pr',pn',h1⟩,h2⟩
 by_cases hnet:err=10∨err=9
 ·by_cases hl:(s.fails:Int)+1=s.tries
  ·refine fin ?_ (takeR_net (fun w h=>fail_last w h (by dsimp only;omega) now (Jh hl)) w h ha s.writes rfl A data.length c ver r3 r4 r5 r6 err (Jh hnet))
   unfold takeD
   rw [if_pos hnet,if_pos hl]
  ·refine fin ?_ (takeR_net (fun w h=>fail_more w h (by dsimp only;omega) now h0 h9 (Jh hi.g.wait) (Jh hl)) w h ha s.writes rfl A data.length c ver r3 r4 r5 r6 err (Jh hnet))
   unfold takeD
   rw [if_pos hnet,if_neg hl]
 cases hw:s.writes
 ·by_cases h7:err=7
  ·refine fin ?_ (takeR_none hap hdid hi.g.ge w h ha hw A data.length c ver r3 r4 r5 r6 now err (Jh h7) _ (Jh rfl))
   unfold takeD
   rw [if_neg hnet,if_neg (by rw [hw];decide),if_pos h7]
  by_cases h00:err=0
  ·by_cases hd:(decB data).2=0
   ·refine fin ?_ (takeR_read hap hdid hdc hi.g.ge w h ha hw A data.length c ver r3 r4 r5 r6 now err (Jh h00) data (Jh hbt) hnc hn (dec_gd data) (Jh hd) _ (Jh rfl))
    unfold takeD
    rw [if_neg hnet,if_neg (by rw [hw];decide),if_neg h7,if_neg (by simpa using h00),if_neg (by simpa using hd)]
   ·refine fin ?_ (takeR_garb hdc w h ha hw A data.length c ver r3 r4 r5 r6 now err (Jh h00) data (Jh hbt) hnc hn (Jh hd) _ (Jh rfl))
    unfold takeD
    rw [if_neg hnet,if_neg (by rw [hw];decide),if_neg h7,if_neg (by simpa using h00),if_pos hd]
  ·refine fin ?_ (takeR_rfail w h ha hw A data.length c ver r3 r4 r5 r6 now err (fun e=>hnet (.inl e)) (fun e=>hnet (.inr e)) h7 h00)
   unfold takeD
   rw [if_neg hnet,if_neg (by rw [hw];decide),if_neg h7,if_pos h00]
 ·by_cases h00:err=0
  ·refine fin ?_ (takeR_done w h ha hw A data.length c ver r3 r4 r5 r6 now err (Jh h00))
   unfold takeD
   rw [if_neg hnet,if_pos hw,if_pos h00]
  by_cases h8:err=8
  ·refine fin ?_ (takeR_vers w h ha hw A data.length c ver r3 r4 r5 r6 now err (Jh h8))
   unfold takeD
   rw [if_neg hnet,if_pos hw,if_neg h00,if_pos h8]
  ·refine fin ?_ (takeR_wfail w h ha hw A data.length c ver r3 r4 r5 r6 now err (fun e=>hnet (.inl e)) (fun e=>hnet (.inr e)) h8 h00)
   unfold takeD
   rw [if_neg hnet,if_pos hw,if_neg h00,if_neg h8]
end
theorem Sim.cin {s t:Cst} (h:Sim s t) (hi:Cin s):Cin t:=by
 obtain ⟨f,d,rfl,h2⟩:=h
 exact ⟨⟨hi.g.ge,hi.g.read,hi.g.next,hi.g.tries,hi.g.wait,fun h0=>(by have h1:=hi.g.fails h0;have h3:=(h2 h0).1;dsimp only at h3 ⊢;omega),hi.g.asked,hi.g.er⟩,hi.right⟩
theorem Sim.facts {s t:Cst} (h:Sim s t):t.st=s.st∧t.er=s.er∧t.asked=s.asked∧t.read=s.read:=by
 obtain ⟨f,d,rfl,_⟩:=h
 exact ⟨rfl,rfl,rfl,rfl⟩
theorem next_sim {s t:Cst} (hi:Cin s) (h:Sim s t) (now:Int):nextB t now=nextB s now∧nextC t now=nextC s now∧Sim (nextS s now) (nextS t now)∧Cin (nextS s now):=by
 by_cases h0:s.st=0
 ·obtain rfl:=h.eq h0
  refine ⟨rfl,rfl,Sim.refl _,?_⟩
  unfold nextS
  split
  ·exact ⟨⟨hi.g.ge,hi.g.read,hi.g.next,hi.g.tries,hi.g.wait,hi.g.fails,fun _=>h0,hi.g.er⟩,hi.right⟩
  ·exact hi
 ·have b1:nextB s now=false:=decide_eq_false fun h=>h0 h.1
  have b2:nextB t now=false:=decide_eq_false fun h'=>h0 (by rw [← h.facts.1];exact h'.1)
  have c1:nextC s now=(0,⟨#[]⟩,[],0):=by unfold nextC;rw [b1];rfl
  have c2:nextC t now=(0,⟨#[]⟩,[],0):=by unfold nextC;rw [b2];rfl
  have e1:nextS s now=s:=by unfold nextS;rw [b1];rfl
  have e2:nextS t now=t:=by unfold nextS;rw [b2];rfl
  rw [b1,b2,c1,c2,e1,e2]
  exact ⟨rfl,rfl,h,hi⟩
theorem qec {s t:Cst} (hi:Cin s) (h:Sim s t) (err:Int) (data:List UInt8) (ver now:Int):Sim (takeT takeS s err data ver now) (takeT takeD t err data ver now)∧Cin (takeT takeS s err data ver now):=by
 unfold takeT
 rw [h.facts.2.2.1]
 by_cases ha:s.asked=true
 ·rw [if_pos ha,if_pos ha]
  exact ⟨take_sim hi h ha err data ver now,hi.take ha err data ver now⟩
 ·rw [if_neg ha,if_neg ha]
  exact ⟨h,hi⟩
def Dz (W:World) (B:Nat) (A:Option Addr) (c:Nat) (d:List UInt8):Prop:=B≤W.heap.size∧d.length≤c∧(Bytes W B A d.length d∨∃ base,W.ownsRow base 5 1 (.slice A d.length c) d.length (d.map byteV))
theorem Dz.bytes {W:World} {B c:Nat} {A:Option Addr} {d:List UInt8} (h:Dz W B A c d):Bytes W W.heap.size A d.length d:=by
 obtain ⟨hB,_,h|⟨base,h⟩⟩:=h
 ·exact h.more hB
 ·exact qbd h
theorem Dz.below {W W':World} {B c:Nat} {A:Option Addr} {d:List UInt8} (h:Dz W B A c d) (hb:Below W.heap.size W W'):Dz W' B A c d:=by
 obtain ⟨hB,hc,h|⟨base,h⟩⟩:=h
 ·exact ⟨Nat.le_trans hB hb.size,hc,.inl (h.below (hb.mono hB))⟩
 ·exact ⟨Nat.le_trans hB hb.size,hc,.inr ⟨base,qak h hb⟩⟩
theorem Dz.only {W W':World} {B c g:Nat} {A:Option Addr} {d:List UInt8} {t:TypeId} {cs:Array Value} (h:Dz W B A c d) (ho:Only g W W') (hk:Blk W g t cs) (hne:5≠t) (hg:B≤g):Dz W' B A c d:=by
 obtain ⟨hB,hc,h|⟨base,h⟩⟩:=h
 ·exact ⟨Nat.le_trans hB ho.size,hc,.inl (h.only ho hg hB)⟩
 ·exact ⟨Nat.le_trans hB ho.size,hc,.inr ⟨base,qa3 h ho hk hne⟩⟩
end Go.Proofs.YtibnehaibgbliaaGreat.Mf
namespace Go.Proofs.YtibnehaibgbliaaGreat.Mf
open Go.RowKit Go.Proofs.YtibnehaibgbliaaGreat
open Go.ChangeShapes Go.WideShapes
theorem wf_u32 {x:Int} (h:(Lit.int .u32 x).wf=true):0≤x∧x≤4294967295:=by
 have h2:IntKind.u32.min=0:=rfl
 have h3:IntKind.u32.max=4294967295:=rfl
 simp only [Lit.wf,Bool.and_eq_true,decide_eq_true_eq,h2,h3] at h
 exact h
section
variable {H:Type} {enc:TypeId × Value→H} {W:World} {v:Value} {d:DataW H}
theorem part_ens (h:Part enc Tryz.prog W 22 v d) :
  ∃ (A:Option Addr) (c:Nat) (l:List En),v=.slice A l.length c∧l.length≤c∧l.length≤17592186044416∧Reads W W.heap.size 9 A l.length (l.flatMap En.cs)∧∀ x∈l,x.Ok:=by
 obtain ⟨A,c,l,e,hl,_,hby,hr,hg⟩:=h.flat Tryz.underlying22 Tryz.underlying85 (by kernel_rfl) (by kernel_rfl) (by decide) En.cs (fun _=>rfl) (fun x=>x.Ok) (fun us hu=>by
  obtain ⟨y0,t0⟩:=hu 0 _ rfl
  obtain ⟨y1,t1⟩:=hu 1 _ rfl
  obtain ⟨y2,t2⟩:=hu 2 _ rfl
  obtain ⟨y3,t3⟩:=hu 3 _ rfl
  obtain ⟨y4,t4⟩:=hu 4 _ rfl
  obtain ⟨y5,t5⟩:=hu 5 _ rfl
  obtain ⟨y6,t6⟩:=hu 6 _ rfl
  obtain ⟨y7,t7⟩:=hu 7 _ rfl
  obtain ⟨y8,t8⟩:=hu 8 _ rfl
  obtain ⟨x0,e0,s0⟩:=t0.str Tryz.underlying9
  obtain ⟨x1,e1,_⟩:=t1.int Tryz.underlying3
  obtain ⟨x2,e2,s2⟩:=t2.str Tryz.underlying9
  obtain ⟨x3,e3,_⟩:=t3.int Tryz.underlying3
  obtain ⟨x4,e4,_⟩:=t4.int Tryz.underlying3
  obtain ⟨x5,e5,_⟩:=t5.int Tryz.underlying3
  obtain ⟨x6,e6,_⟩:=t6.int Tryz.underlying3
  obtain ⟨x7,e7,s7⟩:=t7.int Tryz.underlying83
  obtain ⟨x8,e8,_⟩:=t8.int Tryz.underlying3
  refine ⟨⟨x0,x1,x2,x3,x4,x5,x6,x7,x8⟩,⟨s0,s2,wf_u32 s7⟩,fun j hj=>?_⟩
  have hj9:j<9:=hj
  have:j=0∨j=1∨j=2∨j=3∨j=4∨j=5∨j=6∨j=7∨j=8:=by omega
  rcases this with rfl|rfl|rfl|rfl|rfl|rfl|rfl|rfl|rfl
  ·rw [e0];rfl
  ·rw [e1];rfl
  ·rw [e2];rfl
  ·rw [e3];rfl
  ·rw [e4];rfl
  ·rw [e5];rfl
  ·rw [e6];rfl
  ·rw [e7];rfl
  ·rw [e8];rfl)
 have hbz:Tryz.prog.bytesOf 85=88:=by kernel_rfl
 rw [hbz] at hby
 exact ⟨A,c,l,e,hl,by omega,hr,hg⟩
theorem part_mks (h:Part enc Tryz.prog W 24 v d) :
  ∃ (A:Option Addr) (c:Nat) (l:List Mk),v=.slice A l.length c∧l.length≤c∧l.length≤17592186044416∧Reads W W.heap.size 2 A l.length (l.flatMap Mk.cs):=by
 obtain ⟨A,c,l,e,hl,_,hby,hr,hg⟩:=h.flat Tryz.underlying24 Tryz.underlying90 (by kernel_rfl) (by kernel_rfl) (by decide) Mk.cs (fun _=>rfl) (fun x=>True) (fun us hu=>by
  obtain ⟨y0,t0⟩:=hu 0 _ rfl
  obtain ⟨y1,t1⟩:=hu 1 _ rfl
  obtain ⟨x0,e0,_⟩:=t0.int Tryz.underlying3
  obtain ⟨x1,e1,_⟩:=t1.int Tryz.underlying3
  refine ⟨⟨x0,x1⟩,trivial,fun j hj=>?_⟩
  have hj9:j<2:=hj
  have:j=0∨j=1:=by omega
  rcases this with rfl|rfl
  ·rw [e0];rfl
  ·rw [e1];rfl)
 have hbz:Tryz.prog.bytesOf 90=16:=by kernel_rfl
 rw [hbz] at hby
 exact ⟨A,c,l,e,hl,by omega,hr⟩
theorem part_ows (h:Part enc Tryz.prog W 51 v d) :
  ∃ (A:Option Addr) (c:Nat) (l:List Ow),v=.slice A l.length c∧l.length≤c∧l.length≤17592186044416∧Reads W W.heap.size 3 A l.length (l.flatMap Ow.cs):=by
 obtain ⟨A,c,l,e,hl,_,hby,hr,hg⟩:=h.flat Tryz.underlying51 Tryz.underlying26 (by kernel_rfl) (by kernel_rfl) (by decide) Ow.cs (fun _=>rfl) (fun x=>True) (fun us hu=>by
  obtain ⟨y0,t0⟩:=hu 0 _ rfl
  obtain ⟨y1,t1⟩:=hu 1 _ rfl
  obtain ⟨y2,t2⟩:=hu 2 _ rfl
  obtain ⟨x0,e0,_⟩:=t0.int Tryz.underlying3
  obtain ⟨x1,e1,_⟩:=t1.int Tryz.underlying3
  obtain ⟨x2,e2,_⟩:=t2.int Tryz.underlying3
  refine ⟨⟨x0,x1,x2⟩,trivial,fun j hj=>?_⟩
  have hj9:j<3:=hj
  have:j=0∨j=1∨j=2:=by omega
  rcases this with rfl|rfl|rfl
  ·rw [e0];rfl
  ·rw [e1];rfl
  ·rw [e2];rfl)
 have hbz:Tryz.prog.bytesOf 26=24:=by kernel_rfl
 rw [hbz] at hby
 exact ⟨A,c,l,e,hl,by omega,hr⟩
theorem flat_str:∀ l:List ByteArray,(l.flatMap fun s=>[Value.string s])=l.map Value.string
 | []=>rfl
 | a::r=>by rw [List.flatMap_cons,List.map_cons,flat_str r];rfl
theorem part_strs (h:Part enc Tryz.prog W 23 v d) :
  ∃ (A:Option Addr) (c:Nat) (l:List ByteArray),v=.slice A l.length c∧l.length≤c∧l.length≤17592186044416∧Reads W W.heap.size 1 A l.length (l.map Value.string)∧∀ k∈l,k.size≤140737488351232:=by
 obtain ⟨A,c,l,e,hl,_,hby,hr,hg⟩:=h.rows Tryz.underlying23 (size:=1) (by kernel_rfl) (by decide) (fun s:ByteArray=>[Value.string s]) (fun s=>s.size≤140737488351232) (fun cs y hcs hp=>by
  match cs,hcs with
  | [c0],_ =>
   obtain ⟨s,rfl,hs⟩:=hp.one.str Tryz.underlying9
   exact ⟨s,hs,rfl⟩) (fun _=>rfl)
 have hbz:Tryz.prog.bytesOf 9=16:=by kernel_rfl
 rw [hbz] at hby
 rw [flat_str] at hr
 exact ⟨A,c,l,e,hl,by omega,hr,hg⟩
end
set_option maxRecDepth 100000 in
theorem arg_own {H:Type} {enc:TypeId × Value→H} {W:World} {v:Value} {d:DataW H} {cs:List Value} (hr:PartC enc Tryz.prog W 26 cs d):∃ y:Ow,cs=y.cs:=by
 have h7:cs.length=3:=(hr.len Tryz.underlying26).trans (by kernel_rfl)
 match cs,h7 with
 | [c0,c1,c2],_ =>
  obtain ⟨y0,h0⟩:=hr.fieldAt Tryz.underlying26 0 0 1 3 (by kernel_rfl)
  obtain ⟨y1,h1⟩:=hr.fieldAt Tryz.underlying26 1 1 1 3 (by kernel_rfl)
  obtain ⟨y2,h2⟩:=hr.fieldAt Tryz.underlying26 2 2 1 3 (by kernel_rfl)
  have h0:PartC enc Tryz.prog W 3 [c0] y0:=h0
  have h1:PartC enc Tryz.prog W 3 [c1] y1:=h1
  have h2:PartC enc Tryz.prog W 3 [c2] y2:=h2
  obtain ⟨a,rfl,_⟩:=h0.one.int Tryz.underlying3
  obtain ⟨b,rfl,_⟩:=h1.one.int Tryz.underlying3
  obtain ⟨c,rfl,_⟩:=h2.one.int Tryz.underlying3
  exact ⟨⟨a,b,c⟩,rfl⟩
set_option maxRecDepth 100000 in
theorem part_edit {H:Type} {enc:TypeId × Value→H} {W:World} {d:DataW H} {cs:List Value} (hr:PartC enc Tryz.prog W 28 cs d):∃ x q,cs=[.slice q.AA x.add.length q.cA,.slice q.AD x.drop.length q.cD,.slice q.AM x.marks.length q.cM,.int .i64 x.cut,.int .i64 x.fence,.int .i64 x.by_.agent,.int .i64 x.by_.life,.int .i64 x.by_.count]∧Edi W W.heap.size x q:=by
 have h7:cs.length=8:=(hr.len Tryz.underlying28).trans (by kernel_rfl)
 match cs,h7 with
 | [c0,c1,c2,c3,c4,c5,c6,c7],_ =>
  obtain ⟨y0,h0⟩:=hr.fieldAt Tryz.underlying28 0 0 1 22 (by kernel_rfl)
  obtain ⟨y1,h1⟩:=hr.fieldAt Tryz.underlying28 1 1 1 23 (by kernel_rfl)
  obtain ⟨y2,h2⟩:=hr.fieldAt Tryz.underlying28 2 2 1 24 (by kernel_rfl)
  obtain ⟨y3,h3⟩:=hr.fieldAt Tryz.underlying28 3 3 1 3 (by kernel_rfl)
  obtain ⟨y4,h4⟩:=hr.fieldAt Tryz.underlying28 4 4 1 3 (by kernel_rfl)
  obtain ⟨y5,h5⟩:=hr.fieldAt Tryz.underlying28 5 5 3 26 (by kernel_rfl)
  have h0:PartC enc Tryz.prog W 22 [c0] y0:=h0
  have h1:PartC enc Tryz.prog W 23 [c1] y1:=h1
  have h2:PartC enc Tryz.prog W 24 [c2] y2:=h2
  have h3:PartC enc Tryz.prog W 3 [c3] y3:=h3
  have h4:PartC enc Tryz.prog W 3 [c4] y4:=h4
  have h5:PartC enc Tryz.prog W 26 [c5,c6,c7] y5:=h5
  obtain ⟨AE,cE,E,rfl,k1,k2,k3,k4⟩:=part_ens h0.one
  obtain ⟨AD,cD,D,rfl,k5,k6,k7,k8⟩:=part_strs h1.one
  obtain ⟨AM,cM,M,rfl,k9,k10,k11⟩:=part_mks h2.one
  obtain ⟨cut,rfl,_⟩:=h3.one.int Tryz.underlying3
  obtain ⟨fence,rfl,_⟩:=h4.one.int Tryz.underlying3
  obtain ⟨y,hy⟩:=arg_own (v:=.bool true) h5
  injection hy with e1 hy
  injection hy with e2 hy
  injection hy with e3 _
  subst e1 e2 e3
  exact ⟨⟨E,D,M,cut,fence,y⟩,⟨AE,cE,AD,cD,AM,cM⟩,rfl,⟨k3,k7,k11,k2,k6,k10,k1,k5,k9,k4,k8⟩⟩
set_option maxRecDepth 100000 in
theorem arg_edit {H:Type} {enc:TypeId × Value→H} {W:World} {base:Nat} {v:Value} {d:DataW H} {p:List MemPlace} (h:Arg enc Tryz.prog W base 28 v d p):∃ x q,v=edV x q∧Edi W W.heap.size x q:=by
 obtain ⟨cs,rfl,hsz⟩:=okWide_struct Tryz.underlying28 h.ok
 have hr:PartC enc Tryz.prog W 28 cs.toList d:=⟨by obtain ⟨m,hm⟩:=h.trod;exact ⟨m,p,hm⟩,h.sized⟩
 obtain ⟨x,q,hy,he⟩:=part_edit hr
 refine ⟨x,q,?_,he⟩
 have hcs:cs=⟨cs.toList⟩:=rfl
 rw [hcs,hy]
theorem var0 {w:World} (h:w.ShapedOpen Tryz.prog):Sh w:=Go.Proofs.cell_of_shapedOpen_int (zero:=#[.int .i64 0]) (t:=3) h (of_decide_eq_true (by kernel_rfl)) (by kernel_rfl) rfl (by kernel_rfl) (by kernel_rfl) Tryz.underlying3
theorem part_bytes {H:Type} {enc:TypeId × Value→H} {W:World} {u:Value} {d:DataW H} (h:Part enc Tryz.prog W 33 u d) :
  ∃ (A:Option Addr) (c:Nat) (l:List UInt8),u=.slice A l.length c∧l.length≤c∧c≤140737488351232∧Bytes W W.heap.size A l.length l:=by
 have hs:=h.sized
 obtain ⟨fuel,p,hf⟩:=h.trod
 have hB:Tryz.prog.bytesOf 5=1:=by kernel_rfl
 rcases open_ints Tryz.underlying33 Tryz.underlying5 (by kernel_rfl) hf with ⟨hcs,_⟩|⟨x,n,c,zs,hcs,_,hl,hm,hz,hx,hcell,hwz⟩
 ·simp at hcs
  subst hcs
  exact ⟨none,0,[],rfl,Nat.le_refl _,by omega,rfl,Reads.none_⟩
 ·simp at hcs
  subst hcs
  have hz:zs.length=c:=by simpa using hz
  simp only [Prod.mk.injEq] at hx
  obtain ⟨rfl,rfl⟩:=hx
  have hr:=hs (((lits (H:=H) .u8 (zs.take n)).length+(lits (H:=H) .u8 (zs.drop n)).length)*Tryz.prog.bytesOf 5) (by simp [DataW.weights,Tryz.underlying33])
  have hlen:(lits (H:=H) .u8 (zs.take n)).length+(lits (H:=H) .u8 (zs.drop n)).length=c:=by simp [lits];omega
  rw [hlen,hB,Nat.mul_one] at hr
  have hr':c≤140737488351232:=by simpa [reachBytes] using hr
  let l:List UInt8:=(zs.take n).map fun z=>UInt8.ofNat z.toNat
  have hll:l.length=n:=by simp [l];omega
  have hrow:∀ j (hj:j<n),W.cell? (x.add j)=some (byteV (l[j]'(by rw [hll];exact hj))):=by
   intro j hj
   have h1:=hcell j (by omega)
   have hjz:j<zs.length:=by omega
   have h2:=hwz zs[j] (List.getElem_mem hjz)
   have h3:IntKind.u8.min=0:=rfl
   have h4:IntKind.u8.max=255:=rfl
   simp only [Lit.wf,Bool.and_eq_true,decide_eq_true_eq,h3,h4] at h2
   rw [h1]
   simp only [byteV,l,List.getElem_map,List.getElem_take,Option.some.injEq,Value.int.injEq,true_and,UInt8.toNat_ofNat',List.getD,List.getElem?_eq_getElem hjz,Option.getD_some]
   omega
  refine ⟨some x,c,l,by rw [hll],by omega,hr',rfl,by simp,fun hn=>?_⟩
  obtain ⟨b,off,spot⟩:=x
  have hspot:spot=none:=by simpa [Addr.add] using World.cell?_spot (hrow 0 (by omega))
  subst hspot
  refine ⟨b,off,rfl,?_,fun j v hv=>?_⟩
  ·have:=World.block_lt_of_cell? W _ (hrow 0 (by omega))
   simpa [Addr.add] using this
  ·rw [List.getElem?_map] at hv
   have hj:j<l.length:=by
    rcases Nat.lt_or_ge j l.length with h|h
    ·exact h
    ·rw [List.getElem?_eq_none h] at hv;cases hv
   rw [List.getElem?_eq_getElem hj] at hv
   simp only [Option.map_some,Option.some.injEq] at hv
   subst hv
   have:=hrow j (by omega)
   rw [qbo] at this
   exact this
structure Ac where
 tick:Int
 ask:Bool
 put:Bool
 err:Int
 A:Option Addr
 c:Nat
 data:List UInt8
 ver:Int
 born:Int
 id:Int
 LA:Option Addr
 ln:Nat
 lc:Nat
 more:Bool
 m:Md
 p:Pl
instance:Inhabited Md:=⟨⟨0,0,0,[],[],[]⟩⟩
instance:Inhabited Pl:=⟨⟨none,0,none,0,none,0⟩⟩
instance:Inhabited Ac:=⟨⟨0,false,false,0,none,0,[],0,0,0,none,0,0,false,⟨0,0,0,[],[],[]⟩,⟨none,0,none,0,none,0⟩⟩⟩
def Ac.cs (a:Ac):List Value:=[.int .i64 a.tick,.bool a.ask,.bool a.put,.int .i64 a.err,.slice a.A a.data.length a.c,.int .i64 a.ver,.int .i64 a.born,.int .i64 a.id,.slice a.LA a.ln a.lc,.bool a.more,.int .i64 a.m.gen,.int .i64 a.m.cut,.int .i64 a.m.fence,.slice a.p.AE a.m.E.length a.p.cE,.slice a.p.AM a.m.M.length a.p.cM,.slice a.p.AO a.m.O.length a.p.cO]
theorem acs_len (a:Ac):a.cs.length=16:=rfl
structure Ac.Ok (W:World) (B:Nat) (a:Ac):Prop where
 cap:a.data.length≤a.c
 len:a.c≤140737488351232
 bytes:Bytes W B a.A a.data.length a.data
 man:Man W B a.m a.p
 tick:(Lit.int .i64 a.tick).wf=true
theorem Ac.Ok.below {W W':World} {B:Nat} {a:Ac} (h:a.Ok W B) (hb:Below B W W'):a.Ok W' B:=⟨h.cap,h.len,h.bytes.below hb,h.man.below hb,h.tick⟩
set_option maxRecDepth 100000 in
theorem part_man {H:Type} {enc:TypeId × Value→H} {W:World} {cs:List Value} {d:DataW H} (hr:PartC enc Tryz.prog W 53 cs d):∃ m q,cs=[.int .i64 m.gen,.int .i64 m.cut,.int .i64 m.fence,.slice q.AE m.E.length q.cE,.slice q.AM m.M.length q.cM,.slice q.AO m.O.length q.cO]∧Man W W.heap.size m q:=by
 have h7:cs.length=6:=(hr.len Tryz.underlying53).trans (by kernel_rfl)
 match cs,h7 with
 | [c0,c1,c2,c3,c4,c5],_ =>
  obtain ⟨y0,h0⟩:=hr.fieldAt Tryz.underlying53 0 0 1 3 (by kernel_rfl)
  obtain ⟨y1,h1⟩:=hr.fieldAt Tryz.underlying53 1 1 1 3 (by kernel_rfl)
  obtain ⟨y2,h2⟩:=hr.fieldAt Tryz.underlying53 2 2 1 3 (by kernel_rfl)
  obtain ⟨y3,h3⟩:=hr.fieldAt Tryz.underlying53 3 3 1 22 (by kernel_rfl)
  obtain ⟨y4,h4⟩:=hr.fieldAt Tryz.underlying53 4 4 1 24 (by kernel_rfl)
  obtain ⟨y5,h5⟩:=hr.fieldAt Tryz.underlying53 5 5 1 51 (by kernel_rfl)
  have h0:PartC enc Tryz.prog W 3 [c0] y0:=h0
  have h1:PartC enc Tryz.prog W 3 [c1] y1:=h1
  have h2:PartC enc Tryz.prog W 3 [c2] y2:=h2
  have h3:PartC enc Tryz.prog W 22 [c3] y3:=h3
  have h4:PartC enc Tryz.prog W 24 [c4] y4:=h4
  have h5:PartC enc Tryz.prog W 51 [c5] y5:=h5
  obtain ⟨gen,rfl,_⟩:=h0.one.int Tryz.underlying3
  obtain ⟨cut,rfl,_⟩:=h1.one.int Tryz.underlying3
  obtain ⟨fence,rfl,_⟩:=h2.one.int Tryz.underlying3
  obtain ⟨AE,cE,E,rfl,k1,k2,k3,k4⟩:=part_ens h3.one
  obtain ⟨AM,cM,M,rfl,k5,k6,k7⟩:=part_mks h4.one
  obtain ⟨AO,cO,O,rfl,k8,k9,k10⟩:=part_ows h5.one
  exact ⟨⟨gen,cut,fence,E,M,O⟩,⟨AE,cE,AM,cM,AO,cO⟩,rfl,⟨k3,k7,k10,k2,k6,k9,k1,k5,k8,k4⟩⟩
set_option maxRecDepth 100000 in
theorem part_ac {H:Type} {enc:TypeId × Value→H} {W:World} {cs:List Value} {d:DataW H} (hl:cs.length=16) (h:PartC enc Tryz.prog W 56 cs d):∃ x:Ac,x.Ok W W.heap.size∧x.cs=cs:=by
 match cs,hl with
 | [c0,c1,c2,c3,c4,c5,c6,c7,c8,c9,c10,c11,c12,c13,c14,c15],_ =>
  obtain ⟨y0,h0⟩:=h.fieldAt Tryz.underlying56 0 0 1 3 (by kernel_rfl)
  obtain ⟨y1,h1⟩:=h.fieldAt Tryz.underlying56 1 1 1 4 (by kernel_rfl)
  obtain ⟨y2,h2⟩:=h.fieldAt Tryz.underlying56 2 2 1 4 (by kernel_rfl)
  obtain ⟨yr,hr⟩:=h.fieldAt Tryz.underlying56 3 3 7 42 (by kernel_rfl)
  obtain ⟨ym,hm⟩:=h.fieldAt Tryz.underlying56 4 10 6 53 (by kernel_rfl)
  have h0:PartC enc Tryz.prog W 3 [c0] y0:=h0
  have h1:PartC enc Tryz.prog W 4 [c1] y1:=h1
  have h2:PartC enc Tryz.prog W 4 [c2] y2:=h2
  have hr:PartC enc Tryz.prog W 42 [c3,c4,c5,c6,c7,c8,c9] yr:=hr
  have hm:PartC enc Tryz.prog W 53 [c10,c11,c12,c13,c14,c15] ym:=hm
  obtain ⟨y3,h3⟩:=hr.fieldAt Tryz.underlying42 0 0 1 38 (by kernel_rfl)
  obtain ⟨y4,h4⟩:=hr.fieldAt Tryz.underlying42 1 1 1 33 (by kernel_rfl)
  obtain ⟨y5,h5⟩:=hr.fieldAt Tryz.underlying42 2 2 1 3 (by kernel_rfl)
  obtain ⟨y6,h6⟩:=hr.fieldAt Tryz.underlying42 3 3 1 3 (by kernel_rfl)
  obtain ⟨y7,h7⟩:=hr.fieldAt Tryz.underlying42 4 4 1 3 (by kernel_rfl)
  obtain ⟨y8,h8⟩:=hr.fieldAt Tryz.underlying42 5 5 1 40 (by kernel_rfl)
  obtain ⟨y9,h9⟩:=hr.fieldAt Tryz.underlying42 6 6 1 4 (by kernel_rfl)
  have h6:PartC enc Tryz.prog W 3 [c6] y6:=h6
  have h7:PartC enc Tryz.prog W 3 [c7] y7:=h7
  have h8:PartC enc Tryz.prog W 40 [c8] y8:=h8
  have h9:PartC enc Tryz.prog W 4 [c9] y9:=h9
  have h3:PartC enc Tryz.prog W 38 [c3] y3:=h3
  have h4:PartC enc Tryz.prog W 33 [c4] y4:=h4
  have h5:PartC enc Tryz.prog W 3 [c5] y5:=h5
  obtain ⟨tick,rfl,wt⟩:=h0.one.int Tryz.underlying3
  obtain ⟨ask,rfl⟩:=h1.one.bool Tryz.underlying4
  obtain ⟨put,rfl⟩:=h2.one.bool Tryz.underlying4
  obtain ⟨err,rfl,_⟩:=h3.one.int Tryz.underlying38
  obtain ⟨A,c,l,rfl,hlc,hcm,hb⟩:=part_bytes h4.one
  obtain ⟨ver,rfl,_⟩:=h5.one.int Tryz.underlying3
  obtain ⟨born,rfl,_⟩:=h6.one.int Tryz.underlying3
  obtain ⟨id,rfl,_⟩:=h7.one.int Tryz.underlying3
  obtain ⟨LA,lc,ll,rfl,_⟩:=h8.one.rows Tryz.underlying40 (size:=4) (by kernel_rfl) (by decide) (fun x:{ l:List Value // l.length=4 }=>x.1) (fun _=>True) (fun cs y h1 _=>⟨⟨cs,h1⟩,trivial,rfl⟩) (fun x=>x.2)
  obtain ⟨more,rfl⟩:=h9.one.bool Tryz.underlying4
  obtain ⟨m,p,hmv,hman⟩:=part_man hm
  injection hmv with e1 hmv
  injection hmv with e2 hmv
  injection hmv with e3 hmv
  injection hmv with e4 hmv
  injection hmv with e5 hmv
  injection hmv with e6 hmv
  subst e1 e2 e3 e4 e5 e6
  exact ⟨⟨tick,ask,put,err,A,c,l,ver,born,id,LA,ll.length,lc,more,m,p⟩,⟨hlc,hcm,hb,hman,wt⟩,rfl⟩
structure Acts (W:World) (B:Nat) (A:Option Addr) (l:List Ac):Prop where
 rd:Reads W B 16 A l.length (l.flatMap Ac.cs)
 ok:∀ a∈l,a.Ok W B
set_option maxRecDepth 100000 in
theorem arg_acts {H:Type} {enc:TypeId × Value→H} {W:World} {base:Nat} {v:Value} {d:DataW H} {p:List MemPlace} (h:Arg enc Tryz.prog W base 46 v d p) :
  ∃ (A:Option Addr) (c:Nat) (l:List Ac),v=.slice A l.length c∧Acts W W.heap.size A l:=by
 obtain ⟨A0,n0,c0,rfl⟩:=okWide_slice Tryz.underlying46 h.ok
 obtain ⟨A,c,l,e,hl,_,hby,hr,hg⟩:=(h.part rfl).rows Tryz.underlying46 (size:=16) (by kernel_rfl) (by decide) Ac.cs (fun x=>x.Ok W W.heap.size) (fun cs y h1 h2=>part_ac h1 h2) (fun _=>rfl)
 exact ⟨A,c,l,e,hr,hg⟩
theorem Acts.below {W W':World} {B:Nat} {A:Option Addr} {l:List Ac} (h:Acts W B A l) (hb:Below B W W'):Acts W' B A l:=⟨h.rd.below hb,fun a ha=>(h.ok a ha).below hb⟩
end Go.Proofs.YtibnehaibgbliaaGreat.Mf
namespace Go.Proofs.YtibnehaibgbliaaGreat.Mf
open Go.RowKit Go.Proofs.YtibnehaibgbliaaGreat
set_option maxRecDepth 100000 in
set_option maxHeartbeats 1600000 in
theorem next_nil (w:World) (now:Int):Calls Tryz.prog 10 #[.pointer none,.int .i64 now] w fun e w'=>e=.returned (.tuple #[.agg qap,.bool false])∧Below w.heap.size w w':=by
 go_enter Tryz.func10,Tryz.ntmps10
 go_wp2
 refine bodyPost_ret (qaj rfl _ _ w.heap.size 35 qap _ _ rfl rfl (Blk.new _ _ _) Tryz.underlying35 rfl (by kernel_rfl)) rfl ?_
 exact ⟨rfl,(Below.refl _ _).alloc (Nat.le_refl _) _⟩
set_option maxRecDepth 100000 in
set_option maxHeartbeats 1600000 in
theorem state_nil (w:World):Calls Tryz.prog 12 #[.pointer none] w fun e w'=>e=.returned (.tuple #[.int .i64 3,.int .i64 1])∧Below w.heap.size w w':=by
 go_enter Tryz.func12,Tryz.ntmps12
 go_wp2
 go_ret2
 exact ⟨rfl,Below.refl _ _⟩
set_option maxRecDepth 100000 in
set_option maxHeartbeats 1600000 in
theorem take_nil (w:World) (r0 r1 r2 r3 r4 r5 r6:Value) (now:Int):Calls Tryz.prog 11 #[.pointer none,.agg #[r0,r1,r2,r3,r4,r5,r6],.int .i64 now] w fun e w'=>e=.returned (.int .i64 1)∧Below w.heap.size w w':=by
 have HA:=Jh ((Below.refl w.heap.size w).alloc (Nat.le_refl _) (.cells #[r0,r1,r2,r3,r4,r5,r6] 42))
 go_enter Tryz.func11,Tryz.ntmps11
 go_wp2
 go_ret
 exact ⟨rfl,HA.out⟩
set_option maxRecDepth 100000 in
set_option maxHeartbeats 1600000 in
theorem man_nil (w:World):Calls Tryz.prog 15 #[.pointer none] w fun e w'=>e=.returned (mdV zeroM nilP)∧Below w.heap.size w w':=by
 have HBz:=Jh (Blk.new w 53 #[.int .i64 0,.int .i64 0,.int .i64 0,.slice none 0 0,.slice none 0 0,.slice none 0 0])
 have HA:=Jh ((Below.refl w.heap.size w).alloc (Nat.le_refl _) (.cells #[.int .i64 0,.int .i64 0,.int .i64 0,.slice none 0 0,.slice none 0 0,.slice none 0 0] 53))
 have y0:=HBz.out.cell 0
 have y1:=HBz.out.cell 1
 have y2:=HBz.out.cell 2
 have y3:=HBz.out.cell 3
 have y4:=HBz.out.cell 4
 have y5:=HBz.out.cell 5
 simp only [Ja,Jb,Jc] at y0 y1 y2 y3 y4 y5
 have f0:=HBz.out.frozen 0
 have f1:=HBz.out.frozen 1
 have f2:=HBz.out.frozen 2
 have f3:=HBz.out.frozen 3
 have f4:=HBz.out.frozen 4
 have f5:=HBz.out.frozen 5
 go_enter Tryz.func15,Tryz.ntmps15
 go_upto_region 2 with fail
 have hgl:w.heap.size≤w.heap.size:=Nat.le_refl _
 obtain ⟨g,hg⟩:∃ g,g=w.heap.size:=⟨_,rfl⟩
 have HG:Hid (w.heap.size≤g):=Jh (Nat.le_of_eq hg.symm)
 rw [← hg] at HBz y0 y1 y2 y3 y4 y5 f0 f1 f2 f3 f4 f5 ⊢
 clear hgl hg
 generalize w.alloc (.cells #[.int .i64 0,.int .i64 0,.int .i64 0,.slice none 0 0,.slice none 0 0,.slice none 0 0] 53)=wa at *
 go_wp2
 have hB4:=qan HBz.out (.int .i64 0) (.int .i64 0) (.int .i64 0) (.slice none 0 0) (.slice none 0 0) (.slice none 0 0)
 refine bodyPost_ret (results_cell_row rfl _ _ g 53 #[.int .i64 0,.int .i64 0,.int .i64 0,.slice none 0 0,.slice none 0 0,.slice none 0 0] (0,0) _ rfl hB4 Tryz.underlying53 rfl (by kernel_rfl)) rfl ?_
 exact ⟨rfl,qaq HA.out HG.out (.int .i64 0) (.int .i64 0) (.int .i64 0) (.slice none 0 0) (.slice none 0 0) (.slice none 0 0)⟩
set_option maxRecDepth 100000 in
set_option maxHeartbeats 3200000 in
theorem newR_bad (w:World) {x:Ed} {q:Pd} (tries wait:Int) (h:tries<1∨8<tries∨wait<0∨1099511627776<wait) :
  Calls Tryz.prog 13 #[edV x q,.int .i64 tries,.int .i64 wait] w fun e w'=>e=.returned (.tuple #[.pointer none,.bool false])∧Below w.heap.size w w':=by
 by_cases h1:tries<1
 ·have d1:decide (tries<1)=true:=dct h1
  go_enter Tryz.func13,Tryz.ntmps13
  go_wp2
  refine bodyPost_ret (results_tmp2 rfl _ _ _) rfl ?_
  exact ⟨rfl,(Below.refl _ _).alloc (Nat.le_refl _) _⟩
 have d1:decide (tries<1)=false:=dcf h1
 by_cases h2:8<tries
 ·have d2:decide (8<tries)=true:=dct h2
  go_enter Tryz.func13,Tryz.ntmps13
  go_wp2
  refine bodyPost_ret (results_tmp2 rfl _ _ _) rfl ?_
  exact ⟨rfl,(Below.refl _ _).alloc (Nat.le_refl _) _⟩
 have d2:decide (8<tries)=false:=dcf h2
 by_cases h3:wait<0
 ·have d3:decide (wait<0)=true:=dct h3
  go_enter Tryz.func13,Tryz.ntmps13
  go_wp2
  refine bodyPost_ret (results_tmp2 rfl _ _ _) rfl ?_
  exact ⟨rfl,(Below.refl _ _).alloc (Nat.le_refl _) _⟩
 have d3:decide (wait<0)=false:=dcf h3
 have d4:decide (1099511627776<wait)=true:=dct (by omega)
 go_enter Tryz.func13,Tryz.ntmps13
 go_wp2
 refine bodyPost_ret (results_tmp2 rfl _ _ _) rfl ?_
 exact ⟨rfl,(Below.refl _ _).alloc (Nat.le_refl _) _⟩
set_option maxRecDepth 100000 in
set_option maxHeartbeats 6400000 in
theorem newR_calls (w:World) {B:Nat} {x:Ed} {q:Pd} (h:Edi w B x q) (hB:B≤w.heap.size) (hge:Ge x) (tries wait:Int) (h1:1≤tries) (h2:tries≤8) (h3:0≤wait) (h4:wait≤1099511627776) :
  Calls Tryz.prog 13 #[edV x q,.int .i64 tries,.int .i64 wait] w fun e w'=>∃ g q',e=.returned (.tuple #[.pointer (some ⟨g,0,none⟩),.bool true])∧DmAt w' w.heap.size g (newS x tries wait) q' nilP nilP∧Below w.heap.size w w':=by
 have d1:decide (tries<1)=false:=dcf (by omega)
 have d2:decide (8<tries)=false:=dcf (by omega)
 have d3:decide (wait<0)=false:=dcf (by omega)
 have d4:decide (1099511627776<wait)=false:=dcf (by omega)
 have HE:=Jh h
 have l1:=hge.a
 have l2:=hge.d_
 have l3:=hge.m_
 clear h
 go_enter Tryz.func13,Tryz.ntmps13
 go_upto_region 3 with fail
 have hbk:=Blk.new w 28 #[.slice q.AA x.add.length q.cA,.slice q.AD x.drop.length q.cD,.slice q.AM x.marks.length q.cM,.int .i64 x.cut,.int .i64 x.fence,.int .i64 x.by_.agent,.int .i64 x.by_.life,.int .i64 x.by_.count]
 have hba:=(Below.refl w.heap.size w).alloc (Nat.le_refl _) (.cells #[.slice q.AA x.add.length q.cA,.slice q.AD x.drop.length q.cD,.slice q.AM x.marks.length q.cM,.int .i64 x.cut,.int .i64 x.fence,.int .i64 x.by_.agent,.int .i64 x.by_.life,.int .i64 x.by_.count] 28)
 obtain ⟨gx,hgx⟩:∃ gx,gx=w.heap.size:=⟨_,rfl⟩
 rw [← hgx] at hbk ⊢
 have HGX:=Jh hgx
 clear hgx
 generalize w.alloc (.cells #[.slice q.AA x.add.length q.cA,.slice q.AD x.drop.length q.cD,.slice q.AM x.marks.length q.cM,.int .i64 x.cut,.int .i64 x.fence,.int .i64 x.by_.agent,.int .i64 x.by_.life,.int .i64 x.by_.count] 28)=wa at *
 have HB0:=Jh hbk
 have HL0:=Jh hba
 clear hbk hba
 have z1:=(HB0.out.alloc (.cells #[] 85)).cell 0
 simp only [Ja,Jb,Jc] at z1
 have hsz1:=HL0.out.size
 go_wp2_with (at_builtin;go_must (refine qae _ rfl (.tmp 22) (.tmp 24) _ rfl wa.heap.size 85 _ 9 88 Tryz.underlying22 Tryz.infoEn rfl (by omega) _ _ _ rfl (World.ownsRow_made wa #[] 0 (Nat.le_refl _) (Nat.zero_le _) rfl) B q.AA (x.add).length q.cA (x.add.flatMap En.cs) rfl (Reads.to ((HE.out.below (HL0.out.mono hB)).ra) ((Below.refl B wa).alloc (by omega) _) (Nat.le_refl _)) (qcq x.add) (by unfold maxLen;omega) (by omega) (by simp) ?_))
 intro A1 c1 w1 hc1 hc2 hrd hbel hown _ _
 clear z1
 have hown2:w1.ownsRow wa.heap.size 85 9 (.slice A1 (x.add).length c1) (x.add).length (x.add.flatMap En.cs):=by simpa using hown
 have hb9:=((Below.refl _ _).alloc (Nat.le_refl _) _).trans hbel
 have HBx:=Jh (HB0.out.below hb9 HB0.out.lt)
 have hbs:=HBx.out.set_ 0 (.slice A1 (x.add).length c1)
 simp only [Jd,Je,Jf] at hbs
 have f1:=HBx.out.frozen 0
 have z1:=HBx.out.cell 0
 simp only [Ja,Jb,Jc] at z1
 have hon:Only gx w1 (w1.setCell ⟨gx,0,none⟩ (.slice A1 (x.add).length c1)):=(Only.refl gx _).setCell (.inl rfl) _
 have HB1:=Jh hbs
 have HL1:Hid (Below w.heap.size w (w1.setCell ⟨gx,0,none⟩ (.slice A1 (x.add).length c1))):=Jh ((HL0.out.trans (hb9.mono hsz1)).setCell (p:=⟨gx,0,none⟩) (show w.heap.size≤gx by have:=HGX.out;omega) _)
 have HOa:=Jh (qa3 (qa7 (base':=w.heap.size) hown2 hsz1) hon HBx.out (by decide))
 skip
 skip
 clear hc1 hc2 hrd hbel hown hown2 hbs hon hb9 HBx HB0 HL0
 go_upto_region 4 with fail
 clear f1 z1
 generalize w1.setCell ⟨gx,0,none⟩ (.slice A1 (x.add).length c1)=wb at *
 have z2:=(HB1.out.alloc (.cells #[] 9)).cell 1
 simp only [Ja,Jb,Jc] at z2
 have hsz2:=HL1.out.size
 go_wp2_with (at_builtin;go_must (refine qae _ rfl (.tmp 27) (.tmp 29) _ rfl wb.heap.size 9 _ 1 16 Tryz.underlying23 Tryz.infoStr rfl (by omega) _ _ _ rfl (World.ownsRow_made wb #[] 0 (Nat.le_refl _) (Nat.zero_le _) rfl) B q.AD (x.drop).length q.cD (x.drop.map Value.string) rfl (Reads.to ((HE.out.below (HL1.out.mono hB)).rd) ((Below.refl B wb).alloc (by omega) _) (Nat.le_refl _)) (strs_one' x.drop) (by unfold maxLen;omega) (by omega) (by simp) ?_))
 intro A2 c2 w2 hc1 hc2 hrd hbel hown _ _
 clear z2
 have hown2:w2.ownsRow wb.heap.size 9 1 (.slice A2 (x.drop).length c2) (x.drop).length (x.drop.map Value.string):=by simpa using hown
 have hb9:=((Below.refl _ _).alloc (Nat.le_refl _) _).trans hbel
 have HBx:=Jh (HB1.out.below hb9 HB1.out.lt)
 have hbs:=HBx.out.set_ 1 (.slice A2 (x.drop).length c2)
 simp only [Jd,Je,Jf] at hbs
 have f2:=HBx.out.frozen 1
 have z2:=HBx.out.cell 1
 simp only [Ja,Jb,Jc] at z2
 have hon:Only gx w2 (w2.setCell ⟨gx,1,none⟩ (.slice A2 (x.drop).length c2)):=(Only.refl gx _).setCell (.inl rfl) _
 have HB2:=Jh hbs
 have HL2:Hid (Below w.heap.size w (w2.setCell ⟨gx,1,none⟩ (.slice A2 (x.drop).length c2))):=Jh ((HL1.out.trans (hb9.mono hsz2)).setCell (p:=⟨gx,1,none⟩) (show w.heap.size≤gx by have:=HGX.out;omega) _)
 have HOb:=Jh (qa3 (qa7 (base':=w.heap.size) hown2 hsz2) hon HBx.out (by decide))
 have HOa2:=Jh (qa3 (qak HOa.out hb9) hon HBx.out (by decide))
 skip
 clear hc1 hc2 hrd hbel hown hown2 hbs hon hb9 HBx HB1 HL1
 go_upto_region 5 with fail
 clear f2 z2
 generalize w2.setCell ⟨gx,1,none⟩ (.slice A2 (x.drop).length c2)=wc at *
 have z3:=(HB2.out.alloc (.cells #[] 90)).cell 2
 simp only [Ja,Jb,Jc] at z3
 have hsz3:=HL2.out.size
 go_wp2_with (at_builtin;go_must (refine qae _ rfl (.tmp 32) (.tmp 34) _ rfl wc.heap.size 90 _ 2 16 Tryz.underlying24 Tryz.infoMk rfl (by omega) _ _ _ rfl (World.ownsRow_made wc #[] 0 (Nat.le_refl _) (Nat.zero_le _) rfl) B q.AM (x.marks).length q.cM (x.marks.flatMap Mk.cs) rfl (Reads.to ((HE.out.below (HL2.out.mono hB)).rm) ((Below.refl B wc).alloc (by omega) _) (Nat.le_refl _)) (mcs_one x.marks) (by unfold maxLen;omega) (by omega) (by simp) ?_))
 intro A3 c3 w3 hc1 hc2 hrd hbel hown _ _
 clear z3
 have hown2:w3.ownsRow wc.heap.size 90 2 (.slice A3 (x.marks).length c3) (x.marks).length (x.marks.flatMap Mk.cs):=by simpa using hown
 have hb9:=((Below.refl _ _).alloc (Nat.le_refl _) _).trans hbel
 have HBx:=Jh (HB2.out.below hb9 HB2.out.lt)
 have hbs:=HBx.out.set_ 2 (.slice A3 (x.marks).length c3)
 simp only [Jd,Je,Jf] at hbs
 have f3:=HBx.out.frozen 2
 have z3:=HBx.out.cell 2
 simp only [Ja,Jb,Jc] at z3
 have hon:Only gx w3 (w3.setCell ⟨gx,2,none⟩ (.slice A3 (x.marks).length c3)):=(Only.refl gx _).setCell (.inl rfl) _
 have HB3:=Jh hbs
 have HL3:Hid (Below w.heap.size w (w3.setCell ⟨gx,2,none⟩ (.slice A3 (x.marks).length c3))):=Jh ((HL2.out.trans (hb9.mono hsz3)).setCell (p:=⟨gx,2,none⟩) (show w.heap.size≤gx by have:=HGX.out;omega) _)
 have HOc:=Jh (qa3 (qa7 (base':=w.heap.size) hown2 hsz3) hon HBx.out (by decide))
 have HOa3:=Jh (qa3 (qak HOa2.out hb9) hon HBx.out (by decide))
 have HOb3:=Jh (qa3 (qak HOb.out hb9) hon HBx.out (by decide))
 clear hc1 hc2 hrd hbel hown hown2 hbs hon hb9 HBx HB2 HL2
 go_upto_region 6 with fail
 clear f3 z3
 generalize w3.setCell ⟨gx,2,none⟩ (.slice A3 (x.marks).length c3)=wd at *
 have y0:=HB3.out.cell 0
 have y1:=HB3.out.cell 1
 have y2:=HB3.out.cell 2
 have y3:=HB3.out.cell 3
 have y4:=HB3.out.cell 4
 have y5:=HB3.out.cell 5
 have y6:=HB3.out.cell 6
 have y7:=HB3.out.cell 7
 simp only [Ja,Jb,Jc] at y0 y1 y2 y3 y4 y5 y6 y7
 go_wp2
 refine bodyPost_ret (results_tmp2 rfl _ _ _) rfl ?_
 exact ⟨wd.heap.size,⟨A1,c1,A2,c2,A3,c3⟩,rfl,⟨HL3.out.size,Blk.new _ _ _,Edo.below ⟨HOa3.out,HOb3.out,HOc.out⟩ ((Below.refl _ _).alloc (Nat.le_refl _) _),Mow.zero _ _,Mow.zero _ _⟩,HL3.out.alloc HL3.out.size _⟩
end Go.Proofs.YtibnehaibgbliaaGreat.Mf
