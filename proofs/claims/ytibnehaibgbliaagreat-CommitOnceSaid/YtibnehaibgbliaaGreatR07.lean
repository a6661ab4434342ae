/- Laws for the row's walk. -/
import Derived.Test.YtibnehaibgbliaaGreatR06
import Derived.Laws.BitsAllLaws
set_option linter.unusedVariables false
set_option linter.unusedSimpArgs false
open Go.Lib renaming hid → Jh
open List renaming getElem?_toArray → Ja, getElem?_cons_zero → Jb, getElem?_cons_succ → Jc
namespace Go.Proofs.YtibnehaibgbliaaGreat.Nu
open Go.RowKit
theorem v_out (w:World) {A:Option Addr} {n c:Nat} (at_:Int) (h:at_<0∨(n:Int)≤at_) :
  Calls Tryz.prog 137 #[.slice A n c,.int .i64 at_] w (RetU w (0,0,3)):=by
 by_cases h1:at_<0
 ·clear h
  go_enter Tryz.func137,Tryz.ntmps137
  go_wp2
  go_ret3
  exact ⟨rfl,rfl⟩
 ·have h2:(n:Int)≤at_:=by omega
  clear h
  go_enter Tryz.func137,Tryz.ntmps137
  go_wp2
  go_ret3
  exact ⟨rfl,rfl⟩
set_option maxRecDepth 100000 in
set_option maxHeartbeats 400000 in
theorem v_in (w:World) {B:Nat} {A:Option Addr} {n c:Nat} {l:List UInt8} (hb:Bytes w B A n l) (k:Nat) (hk:k<n) (hm:n≤9223372036854775807) :
  Calls Tryz.prog 137 #[.slice A n c,.int .i64 (k:Int)] w (RetU w (readAt (l.drop k))):=by
 obtain ⟨b,off,rfl,_,hcell⟩:=hb.cell hk
 have hl:(l.drop k).length=n-k:=by rw [List.length_drop,hb.1]
 have hcells:∀ j (hj:j<(l.drop k).length),w.cell? ⟨b,off+(k+j),none⟩=some (.int .u8 (((l.drop k)[j]).toNat:Int)):=fun j hj=>by
  have:=hcell (k+j) (by omega)
  simpa using this
 clear hcell hb
 generalize l.drop k=r at *
 have Hl:=Jh hl;clear hl
 have Hcells:=Jh hcells;clear hcells
 have d1:decide (n≤k)=false:=by simp;omega
 have d2:decide ((k:Int)<0)=false:=by simp
 go_enter Tryz.func137,Tryz.ntmps137
 go_upto_block 0 with fail
 go_cut [7] (fun i wx=>∃ j:Nat,j≤n-k∧j≤9∧i=.int .i64 (j:Int)∧Hid (headsF 9 r=j)∧wx=w)
 case first =>
  go_wp2_with fail
  go_loop [7] (fun i=>∃ j:Nat,j≤n-k∧j≤9∧i=.int .i64 (j:Int)∧Hid (∀ t,t<j→128≤(r.getD t 0).toNat)) (fun i=>9-(intOf i).toNat)
  case atStart=>exact ⟨0,by omega,by omega,rfl,fun t ht=>by omega⟩
  case round =>
   obtain ⟨j,hj,hj9,rfl,hbig⟩:=hrel
   by_cases h9:j<9
   ·by_cases hlt:j<n-k
    ·have hx:=Hcells.out j (by rw [Hl.out];exact hlt)
     generalize hxe:r[j]'(by rw [Hl.out];exact hlt)=x at *
     by_cases h128:128≤(x.toNat:Int)
     ·have hbig2:Hid (∀ t,t<j+1→128≤(r.getD t 0).toNat):=heads_step hbig.out (by rw [Hl.out];exact hlt) (by rw [hxe];omega)
      clear hxe
      go_wp2
      go_round
      case rel=>exact ⟨j+1,by omega,by omega,by go_num,hbig2⟩
      case measure=>simp [intOf];omega
     ·have Hh:Hid (headsF 9 r=j):=headsF_eq 9 r j (by omega) (by rw [Hl.out];omega) hbig.out (.inr (.inr (by
       have:r.getD j 0=x:=by rw [← hxe];simp [List.getD,List.getElem?_eq_getElem (show j<r.length by rw [Hl.out];exact hlt)]
       rw [this];omega)))
      clear hxe
      go_wp2
      go_meet
      case rel=>exact ⟨j,hj,hj9,rfl,Hh,rfl⟩
    ·have Hh:Hid (headsF 9 r=j):=headsF_eq 9 r j (by omega) (by rw [Hl.out];omega) hbig.out (.inr (.inl (by rw [Hl.out];omega)))
     go_wp2
     go_meet
     case rel=>exact ⟨j,hj,hj9,rfl,Hh,rfl⟩
   ·have Hh:Hid (headsF 9 r=j):=headsF_eq 9 r j (by omega) (by rw [Hl.out];omega) hbig.out (.inl (by omega))
    go_wp2
    go_meet
    case rel=>exact ⟨j,hj,hj9,rfl,Hh,rfl⟩
 case rest =>
  obtain ⟨j,hj,hj9,rfl,hh,rfl⟩:=hcut
  clear d1 d2
  by_cases hlt:j<n-k
  ·have hx:=Hcells.out j (by rw [Hl.out];exact hlt)
   have hlr:j<r.length:=by rw [Hl.out];exact hlt
   generalize hxe:r[j]'hlr=x at *
   have hx2:=UInt8.toNat_lt x
   by_cases hbad:(j=9∧1<x.toNat)∨(0<j∧x.toNat=0)
   ·have Hfin:=Jh (readAt_h2 hh.out hlr (by rw [hxe];exact hbad))
    clear hxe
    by_cases h9:j=9∧1<x.toNat
    ·have q1:((j:Int) == 9)=true:=by simp;omega
     have q2:(1:Int)<(x.toNat:Int):=by omega
     clear hbad h9
     go_wp2
     go_ret3
     rw [Hfin.out];exact ⟨rfl,rfl⟩
    ·have q3:0<j:=by omega
     have q4:((x.toNat:Int) == 0)=true:=by simp;omega
     have q5:¬ (1:Int)<(x.toNat:Int):=by omega
     clear hbad h9
     go_wp2
     all_goals go_ret3
     all_goals (rw [Hfin.out];exact ⟨rfl,rfl⟩)
   ·have Hfin:=Jh (readAt_h3 hh.out hlr (by rw [hxe];exact hbad))
    have hmax:=lev_max hj9 hlr (by rw [hxe];omega)
    clear hxe
    have q:(((j:Int) == 9)=true∧(¬ (1:Int)<(x.toNat:Int)∧0<j)∧((x.toNat:Int) == 0)=false)∨(((j:Int) == 9)=false∧0<j∧((x.toNat:Int) == 0)=false)∨(((j:Int) == 9)=false∧¬ 0<j):=by
     by_cases h9:j=9
     ·exact .inl ⟨by simp;omega,⟨by omega,by omega⟩,by simp;omega⟩
     ·by_cases h0:0<j
      ·exact .inr (.inl ⟨by simp;omega,h0,by simp;omega⟩)
      ·exact .inr (.inr ⟨by simp;omega,h0⟩)
    clear hbad
    rcases q with ⟨q1,q2,q3⟩|⟨q1,q2,q3⟩|⟨q1,q2⟩
    all_goals
     go_wp2
     go_loop [9,10] (fun v i=>∃ t:Nat,t≤j+1∧i=.int .i64 ((t:Int)-1)∧v=.int .u64 (lev ((r.take (j+1)).drop t):Nat)) (fun _ i=>(intOf i+1).toNat)
     case atStart=>exact ⟨j+1,by omega,by go_num,by simp [lev]⟩
     case round =>
      obtain ⟨t,ht,rfl,rfl⟩:=hrel
      rcases Nat.eq_zero_or_pos t with h0|h0
      ·subst h0
       go_wp2
       go_ret3
       rw [Hfin.out];exact ⟨rfl,rfl⟩
      ·obtain ⟨s,rfl⟩:∃ s,t=s+1:=⟨t-1,by omega⟩
       have hy:=Hcells.out s (by omega)
       have e:=lev_back (t:=s) (by omega) hlr
       have hle:=lev_drop_le (r.take (j+1)) s
       generalize r[s]'(by omega)=y at *
       have hy2:=UInt8.toNat_lt y
       generalize hacc:lev ((r.take (j+1)).drop (s+1))=acc at *
       have ee:((s+1:Nat):Int)-1=(s:Int):=by omega
       rw [ee]
       have hb1:(acc:Int)*128+(y.toNat:Int)%128≤18446744073709551615:=by omega
       have hb2:(acc:Int)*128≤18446744073709551615:=by omega
       have Hv:Hid ((acc:Int)*128+(y.toNat:Int)%128=((lev ((r.take (j+1)).drop s):Nat):Int)):=by rw [e];show _=_;omega
       have Hle:=Jh hle
       clear e hle hacc ee hmax
       go_wp2
       go_round
       case rel=>exact ⟨s,by omega,by go_num,by rw [Hv.out]⟩
       case measure=>simp [intOf]
  ·have Hfin:=Jh (readAt_h1 hh.out (by rw [Hl.out];omega))
   go_wp2
   go_ret3
   rw [Hfin.out];exact ⟨rfl,rfl⟩
theorem v_calls (w:World) {B:Nat} {A:Option Addr} {n c:Nat} {l:List UInt8} (hb:Bytes w B A n l) (at_:Int) (hm:n≤9223372036854775807) :
  Calls Tryz.prog 137 #[.slice A n c,.int .i64 at_] w (RetU w (readU l at_)):=by
 unfold readU
 rw [hb.1]
 by_cases h:at_<0∨(n:Int)≤at_
 ·rw [if_pos h];exact v_out w at_ h
 ·rw [if_neg h]
  obtain ⟨k,rfl⟩:=Int.eq_ofNat_of_zero_le (show 0≤at_ by omega)
  exact v_in w hb k (by omega) hm
theorem readU_max (l:List UInt8) (at_:Int):(readU l at_).1≤18446744073709551615∧(readU l at_).2.1≤10:=by
 unfold readU;split
 ·simp
 ·exact ⟨(readAt_max _).1,(readAt_max _).2.1⟩
def Cur (t:TypeId) (w:World) (g B:Nat) (l:List UInt8) (k e:Nat):Prop :=
 ∃ A c,Blk w g t #[.slice A l.length c,.int .i64 (k:Int),.int .i64 (e:Int)]∧l.length≤c∧c≤maxLen∧(Bytes w B A l.length l∧B≤g)∧k≤l.length
theorem Cur.lt {t:TypeId} {w:World} {g B:Nat} {l:List UInt8} {k e:Nat} (h:Cur t w g B l k e):g<w.heap.size:=by
 obtain ⟨A,c,hb,-⟩:=h
 exact hb.lt
theorem Cur.bd {t:TypeId} {w:World} {g B:Nat} {l:List UInt8} {k e:Nat} (h:Cur t w g B l k e):B≤g:=by
 obtain ⟨A,c,hb,-,-,h1,-⟩:=h
 exact h1.2
theorem Cur.far {t:TypeId} {w w':World} {g g' B:Nat} {l:List UInt8} {k e:Nat} (h:Cur t w g B l k e) (ho:Only g' w w') (hne:g≠g') (hB:B≤g'):Cur t w' g B l k e:=by
 have hlt:=h.lt
 obtain ⟨A,c,hb,hc,hm,⟨hby,hBg⟩,hk⟩:=h
 exact ⟨A,c,ho.blk hb hne,hc,hm,⟨hby.only ho hB (by omega),hBg⟩,hk⟩
theorem Cur.below {t:TypeId} {w w':World} {g B:Nat} {l:List UInt8} {k e:Nat} (h:Cur t w g B l k e) (hb:Below w.heap.size w w'):Cur t w' g B l k e:=by
 have hlt:=h.lt
 obtain ⟨A,c,hbk,hc,hm,⟨hby,hBg⟩,hk⟩:=h
 exact ⟨A,c,hbk.below hb hlt,hc,hm,⟨hby.below (hb.mono (by omega)),hBg⟩,hk⟩
def curU (l:List UInt8) (k e:Nat):Nat × Nat × Nat:=if e≠0 then (0,k,e) else ((readU l k).1,k+(readU l k).2.1,(readU l k).2.2)
theorem readU_fits (l:List UInt8) (k:Nat) (hk:k≤l.length):k+(readU l k).2.1≤l.length:=by
 unfold readU
 split
 ·simpa using hk
 ·have:=(readAt_max (l.drop (k:Int).toNat)).2.2
  simp only [Int.toNat_natCast,List.length_drop] at *
  omega
def CurRet (t:TypeId) (w:World) (g B:Nat) (l:List UInt8) (v:Value) (k e:Nat) (en:Ending) (w':World):Prop:=en=.returned v∧Cur t w' g B l k e∧Only g w w'
theorem over_calls (w:World) {g B k e:Nat} {l:List UInt8} (h:Cur 169 w g B l k e) :
  Calls Tryz.prog 108 #[.pointer (some ⟨g,0,none⟩)] w fun en w'=>en=.returned (.bool (decide (e≠0)))∧w=w':=by
 obtain ⟨A,c,hb,-⟩:=h
 have c2:=hb.cell 2
 clear hb
 by_cases he:e=0
 ·subst he
  go_enter Tryz.func108,Tryz.ntmps108
  go_wp2
  go_ret
  exact ⟨rfl,rfl⟩
 ·have q:((e:Int) != 0)=true:=net (by omega)
  go_enter Tryz.func108,Tryz.ntmps108
  go_wp2
  go_ret
  exact ⟨by simp [he],rfl⟩
set_option maxRecDepth 100000 in
set_option maxHeartbeats 400000 in
theorem curU_calls (w:World) {g B k e:Nat} {l:List UInt8} (h:Cur 169 w g B l k e) (hl:l.length≤1000000000000000) :
  Calls Tryz.prog 109 #[.pointer (some ⟨g,0,none⟩)] w (CurRet 169 w g B l (.int .u64 ((curU l k e).1:Nat)) (curU l k e).2.1 (curU l k e).2.2):=by
 have hov:=over_calls w h
 unfold curU
 by_cases he:e=0
 ·subst he
  rw [if_neg (by omega)]
  have hf:=readU_fits l k h.choose_spec.choose_spec.2.2.2.2
  obtain ⟨A,c,hb,hc,hm,⟨hby,hBg⟩,hk⟩:=h
  have c0:=hb.cell 0
  have c1:=hb.cell 1
  have c2:=hb.cell 2
  have f1:=hb.frozen 1
  have f2:=hb.frozen 2
  simp only [Ja,Jb,Jc] at c0 c1 c2
  have Hov:=Jh hov;clear hov
  go_enter Tryz.func109,Tryz.ntmps109
  go_wp2_with fail
  refine Hov.out.mono ?_
  rintro en w' ⟨rfl,rfl⟩
  go_wp2_with fail
  go_region_held3 (fun w'=>w'.cell? ⟨g,0,none⟩=some (.slice A l.length c)∧w'.cell? ⟨g,1,none⟩=some (.int .i64 (k:Int))) (go_keep) ((go_at_call 134;refine (u_calls _ hby.drew k hc (by omega)).mono ?_;rintro en w1 ⟨rfl,rfl⟩))
  generalize readU l (k:Int)=r at *
  obtain ⟨x,j,e⟩:=r
  simp only at hf
  have hg:=hb.lt
  go_wp2
  go_ret
  refine ⟨rfl,⟨A,c,?_,hc,hm,⟨hby.only (((Only.refl g w).drew.setCell (.inl rfl) _).setCell (.inl rfl) _) hBg (by omega),hBg⟩,hf⟩,((Only.refl g w).drew.setCell (.inl rfl) _).setCell (.inl rfl) _⟩
  rw [Int.natCast_add]
  exact (hb.drew.set_ 1 _).set_ 2 _
 ·rw [if_pos he]
  rw [decide_eq_true he] at hov
  have Hov:=Jh hov;clear hov he
  go_enter Tryz.func109,Tryz.ntmps109
  go_wp2_with fail
  refine Hov.out.mono ?_
  rintro en w' ⟨rfl,rfl⟩
  go_wp2
  go_ret
  exact ⟨rfl,h,Only.refl g _⟩
theorem fail_calls (w:World) {g B k e:Nat} {l:List UInt8} (h:Cur 169 w g B l k e) (k' e':Nat) (hk:k'≤l.length) :
  Calls Tryz.prog 110 #[.pointer (some ⟨g,0,none⟩),.int .i64 (k':Int),.int .i64 (e':Int)] w (CurRet 169 w g B l (.tuple #[]) k' e'):=by
 obtain ⟨A,c,hb,hc,hm,⟨hby,hBg⟩,-⟩:=h
 have c1:=hb.cell 1
 have c2:=hb.cell 2
 have f1:=hb.frozen 1
 have f2:=hb.frozen 2
 have hg:=hb.lt
 simp only [Ja,Jb,Jc] at c1 c2
 go_enter Tryz.func110,Tryz.ntmps110
 go_wp2
 go_end0
 exact ⟨rfl,⟨A,c,(hb.set_ 1 _).set_ 2 _,hc,hm,⟨hby.only (((Only.refl g w).setCell (.inl rfl) _).setCell (.inl rfl) _) hBg (by omega),hBg⟩,hk⟩,((Only.refl g w).setCell (.inl rfl) _).setCell (.inl rfl) _⟩
theorem curU_max (l:List UInt8) (k e:Nat):(curU l k e).1≤18446744073709551615:=by
 unfold curU;split
 ·simp
 ·exact (readU_max l k).1
def curEnd (l:List UInt8) (k e:Nat):Nat:=if e≠0 then e else if k<l.length then 5 else 0
set_option maxRecDepth 100000 in
theorem end_calls (w:World) {g B k e:Nat} {l:List UInt8} (h:Cur 169 w g B l k e) :
  Calls Tryz.prog 71 #[.pointer (some ⟨g,0,none⟩)] w fun en w'=>en=.returned (.int .i64 (curEnd l k e:Nat))∧∃ n,w'=w.drewN n:=by
 obtain ⟨A,c,hb,-⟩:=h
 have c0:=hb.cell 0
 have c1:=hb.cell 1
 have c2:=hb.cell 2
 clear hb
 simp only [Ja,Jb,Jc] at c0 c1 c2
 unfold curEnd
 by_cases he:e=0
 ·subst he
  rw [if_neg (by omega)]
  by_cases hk:k<l.length
  ·rw [if_pos hk]
   go_enter Tryz.func71,Tryz.ntmps71
   go_wp2_with fail
   go_region_held3 (fun w'=>w'.cell? ⟨g,0,none⟩=some (.slice A l.length c)∧w'.cell? ⟨g,1,none⟩=some (.int .i64 (k:Int))) (go_keep) (fail)
   go_wp2
   go_ret
   exact ⟨rfl,1,rfl⟩
  ·rw [if_neg hk]
   go_enter Tryz.func71,Tryz.ntmps71
   go_wp2_with fail
   go_region_held3 (fun w'=>w'.cell? ⟨g,0,none⟩=some (.slice A l.length c)∧w'.cell? ⟨g,1,none⟩=some (.int .i64 (k:Int))) (go_keep) (fail)
   go_wp2
   go_ret
   exact ⟨rfl,1,rfl⟩
 ·have q:((e:Int) != 0)=true:=net (by omega)
  rw [if_pos he]
  clear he
  go_enter Tryz.func71,Tryz.ntmps71
  go_wp2
  go_ret
  exact ⟨rfl,0,rfl⟩
theorem new_full (w:World) {B:Nat} {A:Option Addr} {n c:Nat} {l:List UInt8} (h:Bytes w B A n l) (hB:B≤w.heap.size) (hn:n≤140737488355328) :
  Calls Tryz.prog 66 #[.slice A n c] w fun en w'=>∃ g A' c',en=.returned (.pointer (some ⟨g,0,none⟩))∧Blk w' g 169 #[.slice A' l.length c',.int .i64 0,.int .i64 0]∧l.length≤c'∧c'≤maxLen ∧
   w'.ownsRow w.heap.size 5 1 (.slice A' l.length c') l.length (l.map byteV)∧Bytes w' g A' l.length l∧Below w.heap.size w w'∧w.heap.size≤g:=by
 have hl:=h.1
 subst hl
 go_enter Tryz.func66,Tryz.ntmps66
 go_wp2_with (at_builtin;go_must (refine wpList_append_sl _ rfl (.tmp 3) (.tmp 4) _ rfl w.heap.size 5 _ 1 1 Tryz.underlying33 Tryz.infoU8 rfl (by omega) _ _ _ rfl (World.ownsRow_made w #[] 0 (Nat.le_refl _) (Nat.zero_le _) rfl) B A l.length c (l.map byteV) rfl (h.to ((Below.refl B w).alloc hB _) (Nat.le_refl _)).2 (byteV_one l) (by unfold maxLen;omega) (by omega) (by simp) ?_))
 intro A1 c1 w1 hc1 hm1 hr hbel hown _ _
 have hb1:Below w.heap.size w w1:=((Below.refl _ _).alloc (Nat.le_refl _) _).trans hbel
 have Hown:=Jh hown
 clear hown
 go_wp2
 go_ret
 have hr2:Bytes (w1.alloc (.cells #[.slice A1 l.length c1,.int .i64 0,.int .i64 0] 169)) w1.heap.size A1 l.length l:=Bytes.of ((hr.alloc (Nat.le_refl _) _))
 have hown2:=Hown.out.alloc (.cells #[.slice A1 l.length c1,.int .i64 0,.int .i64 0] 169)
 exact ⟨w1.heap.size,A1,c1,rfl,Blk.new _ _ _,hc1,hm1,hown2,hr2,hb1.alloc hb1.size _,hb1.size⟩
theorem new_calls (w:World) {B:Nat} {A:Option Addr} {n c:Nat} {l:List UInt8} (h:Bytes w B A n l) (hB:B≤w.heap.size) (hn:n≤140737488355328) :
  Calls Tryz.prog 66 #[.slice A n c] w fun en w'=>∃ g,en=.returned (.pointer (some ⟨g,0,none⟩))∧Cur 169 w' g g l 0 0∧Below w.heap.size w w'∧w.heap.size≤g :=
 (new_full w h hB hn).mono fun _ _ ⟨g,A',c',he,hb,hc,hm,_,hby,hbel,hg⟩=>⟨g,he,⟨A',c',hb,hc,hm,⟨hby,Nat.le_refl _⟩,Nat.zero_le _⟩,hbel,hg⟩
def curNum (l:List UInt8) (k e:Nat) (most:Int):Nat × Nat × Nat :=
 if e≠0 then (0,k,e) else
 if (curU l k e).2.2≠0 then (0,(curU l k e).2.1,(curU l k e).2.2)
 else if most<0∨most<((curU l k e).1:Int) then (0,k,2) else curU l k e
theorem curNum_err {l:List UInt8} {k e:Nat} {most:Int} (h:e≠0):curNum l k e most=(0,k,e):=by unfold curNum;rw [if_pos h]
theorem curNum_1 {l:List UInt8} {k u k1 e1:Nat} {most:Int} (hr:curU l k 0=(u,k1,e1)) (h:e1≠0):curNum l k 0 most=(0,k1,e1):=by
 unfold curNum;rw [if_neg (by omega),hr,if_pos h]
theorem curNum_2 {l:List UInt8} {k u k1:Nat} {most:Int} (hr:curU l k 0=(u,k1,0)) (h:most<0∨most<(u:Int)):curNum l k 0 most=(0,k,2):=by
 unfold curNum;rw [if_neg (by omega),hr,if_neg (by simp),if_pos h]
theorem curNum_3 {l:List UInt8} {k u k1:Nat} {most:Int} (hr:curU l k 0=(u,k1,0)) (h:¬ (most<0∨most<(u:Int))):curNum l k 0 most=(u,k1,0):=by
 unfold curNum;rw [if_neg (by omega),hr,if_neg (by simp),if_neg h]
theorem u64_in {x:Int} (h0:0≤x) (h1:x≤18446744073709551615):IntKind.u64.wrap x=x:=by rw [IntKind.wrap_u64];omega
theorem cells3 {w:World} {g:Nat} {t:TypeId} {a b c:Value} (h:Blk w g t #[a,b,c]) :
  w.cell? ⟨g,0,none⟩=some a∧w.cell? ⟨g,1,none⟩=some b∧w.cell? ⟨g,2,none⟩=some c :=
 ⟨h.cell 0,h.cell 1,h.cell 2⟩
set_option maxRecDepth 100000 in
set_option maxHeartbeats 400000 in
theorem curNum_calls (w:World) {g B k e:Nat} {l:List UInt8} (h:Cur 169 w g B l k e) (hl:l.length≤1000000000000000) (most:Int) (hm:most≤9223372036854775807) :
  Calls Tryz.prog 68 #[.pointer (some ⟨g,0,none⟩),.int .i64 most] w (CurRet 169 w g B l (.int .i64 ((curNum l k e most).1:Nat)) (curNum l k e most).2.1 (curNum l k e most).2.2):=by
 have hov:=over_calls w h
 by_cases he:e=0
 ·subst he
  have Hov:=Jh hov;clear hov
  have hmax:=curU_max l k 0
  have Hu:=Jh (curU_calls w h hl)
  obtain ⟨A,c,hb,hc,hm',⟨hby,hBg⟩,hk⟩:=h
  obtain ⟨c0,c1,c2⟩:=cells3 hb
  generalize hr:curU l k 0=r at *
  obtain ⟨u,k1,e1⟩:=r
  simp only at hmax
  have Hr:=Jh hr
  clear hr
  go_enter Tryz.func68,Tryz.ntmps68
  go_wp2_with fail
  refine Hov.out.mono ?_
  rintro en w' ⟨rfl,rfl⟩
  go_wp2_with fail
  refine Hu.out.mono ?_
  rintro en w1 ⟨rfl,h1,ho⟩
  have h1':=h1
  obtain ⟨A1,cc1,hb1,-⟩:=h1
  obtain ⟨d0,d1,d2⟩:=cells3 hb1
  clear c0 c1 c2 hb1
  by_cases he1:e1=0
  ·subst he1
   by_cases hbad:most<0∨most<(u:Int)
   ·have Hfin:=Jh (curNum_2 Hr.out hbad)
    have Hf:=Jh (fail_calls w1 h1' k 2 hk)
    by_cases hneg:most<0
    ·clear hbad
     go_wp2_with fail
     refine Hf.out.mono ?_
     rintro en w2 ⟨rfl,h2,ho2⟩
     have h2':=h2
     obtain ⟨A2,cc2,hb2,-⟩:=h2
     obtain ⟨f0,f1,f2⟩:=cells3 hb2
     clear hb2
     go_wp2
     go_ret
     rw [Hfin.out]
     exact ⟨rfl,h2',ho.trans ho2⟩
    ·have hgt:most<(u:Int):=by omega
     have hw:IntKind.u64.wrap most=most:=u64_in (by omega) (by omega)
     clear hbad
     go_wp2_with fail
     refine Hf.out.mono ?_
     rintro en w2 ⟨rfl,h2,ho2⟩
     have h2':=h2
     obtain ⟨A2,cc2,hb2,-⟩:=h2
     obtain ⟨f0,f1,f2⟩:=cells3 hb2
     clear hb2
     go_wp2
     go_ret
     rw [Hfin.out]
     exact ⟨rfl,h2',ho.trans ho2⟩
   ·have Hfin:=Jh (curNum_3 Hr.out hbad)
    have hu2:(u:Int)≤9223372036854775807:=by omega
    have hneg:¬ most<0:=by omega
    have hgt:¬ most<(u:Int):=by omega
    have hw:IntKind.u64.wrap most=most:=u64_in (by omega) (by omega)
    clear hbad
    go_wp2
    go_ret
    rw [Hfin.out]
    exact ⟨rfl,h1',ho⟩
  ·have Hfin:=Jh (curNum_1 (most:=most) Hr.out he1)
   have q1:((e1:Int) == 0)=false:=eqf (by omega)
   have q2:((e1:Int) != 0)=true:=net (by omega)
   clear he1
   go_wp2
   go_ret
   rw [Hfin.out]
   exact ⟨rfl,h1',ho⟩
 ·rw [curNum_err he]
  rw [decide_eq_true he] at hov
  have Hov:=Jh hov;clear hov he
  go_enter Tryz.func68,Tryz.ntmps68
  go_wp2_with fail
  refine Hov.out.mono ?_
  rintro en w' ⟨rfl,rfl⟩
  go_wp2
  go_ret
  exact ⟨rfl,h,Only.refl g _⟩
def curBytes (l:List UInt8) (k e:Nat) (n:Int):List UInt8 × Nat × Nat :=
 if e≠0 then ([],k,e) else if n<0∨(l.length:Int)-(k:Int)<n then ([],k,3) else ((l.drop k).take n.toNat,k+n.toNat,0)
def CurRetB (t:TypeId) (w:World) (g B:Nat) (l:List UInt8) (bs:List UInt8) (k e:Nat) (en:Ending) (w':World):Prop :=
 ∃ A c,en=.returned (.slice A bs.length c)∧bs.length≤c∧c≤maxLen∧w'.ownsRow w.heap.size 5 1 (.slice A bs.length c) bs.length (bs.map byteV)∧Cur t w' g B l k e∧Only g w w'
set_option maxRecDepth 100000 in
set_option maxHeartbeats 400000 in
theorem curBytes_calls (w:World) {g B k e:Nat} {l:List UInt8} (h:Cur 169 w g B l k e) (hl:l.length≤140737488351232) (n:Int) (hn:n≤9223372036854775807) :
  Calls Tryz.prog 69 #[.pointer (some ⟨g,0,none⟩),.int .i64 n] w (CurRetB 169 w g B l (curBytes l k e n).1 (curBytes l k e n).2.1 (curBytes l k e n).2.2):=by
 have hov:=over_calls w h
 unfold curBytes
 by_cases he:e=0
 ·rw [if_neg (by omega)]
  subst he
  have Hov:=Jh hov;clear hov
  have h':=h
  obtain ⟨A,c,hb,hc,hm',⟨hby,hBg⟩,hk⟩:=h
  obtain ⟨c0,c1,c2⟩:=cells3 hb
  have f1:=hb.frozen 1
  have hg:=hb.lt
  by_cases hneg:n<0
  ·rw [if_pos (.inl hneg)]
   have Hf:=Jh (fun wx (hx:Cur 169 wx g B l k 0)=>fail_calls wx hx k 3 hk)
   go_enter Tryz.func69,Tryz.ntmps69
   go_wp2_with fail
   refine Hov.out.mono ?_
   rintro en w' ⟨rfl,rfl⟩
   go_wp2_with fail
   go_quiet (fail)
   go_wp2_with fail
   refine (Hf.out _ ⟨A,c,hb.drewN _,hc,hm',⟨hby.drewN _,hBg⟩,hk⟩).mono ?_
   rintro en w2 ⟨rfl,h2,ho2⟩
   go_wp2
   go_ret
   exact ⟨none,0,rfl,Nat.le_refl _,Nat.zero_le _,World.ownsRow_nil _ _ _ _,h2,((Only.refl g w).drewN _).trans ho2⟩
  ·by_cases hgt:(l.length:Int)-(k:Int)<n
   ·rw [if_pos (.inr hgt)]
    have Hf:=Jh (fun wx (hx:Cur 169 wx g B l k 0)=>fail_calls wx hx k 3 hk)
    have hgd:decide (n<0)=false:=dcf hneg
    go_enter Tryz.func69,Tryz.ntmps69
    go_wp2_with fail
    refine Hov.out.mono ?_
    rintro en w' ⟨rfl,rfl⟩
    go_wp2_with fail
    go_quiet (fail)
    go_wp2_with fail
    refine (Hf.out _ ⟨A,c,hb.drewN _,hc,hm',⟨hby.drewN _,hBg⟩,hk⟩).mono ?_
    rintro en w2 ⟨rfl,h2,ho2⟩
    go_wp2
    go_ret
    exact ⟨none,0,rfl,Nat.le_refl _,Nat.zero_le _,World.ownsRow_nil _ _ _ _,h2,((Only.refl g w).drewN _).trans ho2⟩
   ·rw [if_neg (by omega)]
    obtain ⟨m,rfl⟩:=Int.eq_ofNat_of_zero_le (show 0≤n by omega)
    rw [Int.toNat_natCast]
    have hgd:decide ((m:Int)<0)=false:=dcf hneg
    have hmk:m≤l.length-k:=by omega
    clear hneg hgt
    go_enter Tryz.func69,Tryz.ntmps69
    go_wp2_with fail
    refine Hov.out.mono ?_
    rintro en w' ⟨rfl,rfl⟩
    go_wp2_with fail
    go_quiet (fail)
    go_wp2_with fail
    have hb2:=(hb.drewN nq).set_ 1 (.int .i64 ((k:Int)+(m:Int)))
    have ho2:Only g w ((w.drewN nq).setCell ⟨g,1,none⟩ (.int .i64 ((k:Int)+(m:Int)))):=((Only.refl g w).drewN nq).setCell (.inl rfl) _
    generalize (w.drewN nq).setCell ⟨g,1,none⟩ (.int .i64 ((k:Int)+(m:Int)))=w2 at *
    have hby2:=hby.only ho2 hBg (by omega)
    obtain ⟨d0,d1,d2⟩:=cells3 (a:=.slice A l.length c) (b:=.int .i64 ((k:Int)+(m:Int))) (c:=.int .i64 0) hb2
    have hs:=ho2.size
    have i1:(k:Int)+(m:Int)≤(c:Int):=by omega
    have i2:(0:Int)≤(k:Int):=by omega
    have i3:(k:Int)≤(k:Int)+(m:Int):=by omega
    have i4:IntKind.i64.wrap ((k:Int)+(m:Int)-(m:Int))=(k:Int):=by
     rw [IntKind.wrap_i64];omega
    have hlen:((l.drop k).take m).length=m:=by simp;omega
    have i5:IntKind.i64.wrap (k:Int)=(k:Int):=by rw [IntKind.wrap_i64];omega
    have i6:(0:Int)≤(k:Int)+(m:Int):=by omega
    have i7:((k:Int)+(m:Int)).toNat=k+m:=by omega
    clear c0 c1 c2 f1 h' hb
    have hd:=(Below.refl w2.heap.size w2).drew.alloc (Nat.le_refl _) (.cells #[] 5)
    have hg2:g<w2.heap.size:=by omega
    by_cases hck:c=k
    ·have hm0:m=0:=by omega
     subst hm0
     subst hck
     go_region_held3 (fun w'=>w'.cell? ⟨g,0,none⟩=some (.slice A l.length c)∧w'.cell? ⟨g,1,none⟩=some (.int .i64 ((c:Int)+((0:Nat):Int)))) (go_keep) ((refine step_append_sl _ rfl (.tmp 37) (.tmp 52) _ rfl w2.heap.size 5 _ 1 1 Tryz.underlying33 Tryz.infoU8 rfl (by omega) _ _ _ rfl (World.ownsRow_made w2.drew #[] 0 (Nat.le_refl _) (Nat.zero_le _) rfl) 0 _ 0 _ [] rfl Reads.none_ (by simp) (by unfold maxLen;omega) (by omega) (by simp) ?_;intro A5 c5 w5 hc5 hm5 hr5 hbel5 hown5 hgr5 hat5;have e0:w5.cell? ⟨g,0,none⟩=some (.slice A l.length c):=((hd.trans hbel5).cell (p:=⟨g,0,none⟩) hg2).trans d0;have e1:w5.cell? ⟨g,1,none⟩=some (.int .i64 ((c:Int)+((0:Nat):Int))):=((hd.trans hbel5).cell (p:=⟨g,1,none⟩) hg2).trans d1))
     go_wp2
     go_ret
     have b5:=hd.trans hbel5
     have hby5:=And.intro (hby2.to (b5.mono (by omega)) (Nat.le_refl _)) hBg
     have hnil:(l.drop c).take 0=[]:=rfl
     rw [hnil]
     refine ⟨A5,c5,rfl,by simp,hm5,by simpa using own_base hown5 (show w.heap.size≤w2.heap.size by omega),⟨A,c,?_,hc,hm',hby5,by omega⟩,ho2.trans (Only.of_below b5)⟩
     rw [Int.natCast_add];exact hb2.below b5 hg2
    ·have hby3:=(hby2.cutted hk hc).taken hmk
     rw [if_neg hck] at hby3
     have hr3:=(hby3.to (hd.mono (by omega)) (Nat.le_refl _)).2
     clear hby3
     go_region_held3 (fun w'=>w'.cell? ⟨g,0,none⟩=some (.slice A l.length c)∧w'.cell? ⟨g,1,none⟩=some (.int .i64 ((k:Int)+(m:Int)))) (go_keep) ((refine step_append_sl _ rfl (.tmp 37) (.tmp 52) _ rfl w2.heap.size 5 _ 1 1 Tryz.underlying33 Tryz.infoU8 rfl (by omega) _ _ _ rfl (World.ownsRow_made w2.drew #[] 0 (Nat.le_refl _) (Nat.zero_le _) rfl) B _ m (c-k) (((l.drop k).take m).map byteV) rfl hr3 (byteV_one _) (by unfold maxLen;omega) (by omega) (by simp) ?_;intro A5 c5 w5 hc5 hm5 hr5 hbel5 hown5 hgr5 hat5;have e0:w5.cell? ⟨g,0,none⟩=some (.slice A l.length c):=((hd.trans hbel5).cell (p:=⟨g,0,none⟩) hg2).trans d0;have e1:w5.cell? ⟨g,1,none⟩=some (.int .i64 ((k:Int)+(m:Int))):=((hd.trans hbel5).cell (p:=⟨g,1,none⟩) hg2).trans d1))
     go_wp2
     go_ret
     have b5:=hd.trans hbel5
     have hby5:=And.intro (hby2.to (b5.mono (by omega)) (Nat.le_refl _)) hBg
     refine ⟨A5,c5,(congrArg (fun x=>Ending.returned (.slice A5 x c5)) hlen).symm,by omega,hm5,?_,⟨A,c,?_,hc,hm',hby5,by omega⟩,ho2.trans (Only.of_below b5)⟩
     ·rw [hlen];rw [List.nil_append,Nat.zero_add] at hown5;exact own_base hown5 (by omega)
     ·rw [Int.natCast_add];exact hb2.below b5 hg2
 ·rw [if_pos he]
  rw [decide_eq_true he] at hov
  have Hov:=Jh hov;clear hov he
  go_enter Tryz.func69,Tryz.ntmps69
  go_wp2_with fail
  refine Hov.out.mono ?_
  rintro en w' ⟨rfl,rfl⟩
  go_wp2
  go_ret
  exact ⟨none,0,rfl,Nat.le_refl _,Nat.zero_le _,World.ownsRow_nil _ _ _ _,h,Only.refl g _⟩
def curText (l:List UInt8) (k e:Nat) (most:Int):List UInt8 × Nat × Nat :=
 if e≠0 then ([],k,e)
 else if (curU l k e).2.2≠0 then ([],(curU l k e).2.1,(curU l k e).2.2)
 else if most<0∨most<((curU l k e).1:Int) then ([],k,5)
 else if l.length-(curU l k e).2.1<(curU l k e).1 then ([],k,3)
 else ((l.drop (curU l k e).2.1).take (curU l k e).1,(curU l k e).2.1+(curU l k e).1,0)
theorem curText_err {l:List UInt8} {k e:Nat} {most:Int} (h:e≠0):curText l k e most=([],k,e):=by unfold curText;rw [if_pos h]
theorem curText_1 {l:List UInt8} {k u k1 e1:Nat} {most:Int} (hr:curU l k 0=(u,k1,e1)) (h:e1≠0):curText l k 0 most=([],k1,e1):=by
 unfold curText;rw [if_neg (by omega),hr,if_pos h]
theorem curText_2 {l:List UInt8} {k u k1:Nat} {most:Int} (hr:curU l k 0=(u,k1,0)) (h:most<0∨most<(u:Int)):curText l k 0 most=([],k,5):=by
 unfold curText;rw [if_neg (by omega),hr,if_neg (by simp),if_pos h]
theorem curText_3 {l:List UInt8} {k u k1:Nat} {most:Int} (hr:curU l k 0=(u,k1,0)) (h:¬ (most<0∨most<(u:Int))) (h2:l.length-k1<u):curText l k 0 most=([],k,3):=by
 unfold curText;rw [if_neg (by omega),hr,if_neg (by simp),if_neg h,if_pos h2]
theorem curText_4 {l:List UInt8} {k u k1:Nat} {most:Int} (hr:curU l k 0=(u,k1,0)) (h:¬ (most<0∨most<(u:Int))) (h2:¬ l.length-k1<u):curText l k 0 most=((l.drop k1).take u,k1+u,0):=by
 unfold curText;rw [if_neg (by omega),hr,if_neg (by simp),if_neg h,if_neg h2]
theorem curBytes_ok {l:List UInt8} {k u:Nat} (h:¬ l.length-k<u) (hk:k≤l.length):curBytes l k 0 (u:Int)=((l.drop k).take u,k+u,0):=by
 unfold curBytes;rw [if_neg (by omega),if_neg (by omega),Int.toNat_natCast]
set_option maxRecDepth 100000 in
set_option maxHeartbeats 400000 in
theorem curText_calls (w:World) {g B k e:Nat} {l:List UInt8} (h:Cur 169 w g B l k e) (hl:l.length≤140737488351232) (most:Int) (hm:most≤9223372036854775807) :
  Calls Tryz.prog 70 #[.pointer (some ⟨g,0,none⟩),.int .i64 most] w (CurRet 169 w g B l (.string ⟨(curText l k e most).1.toArray⟩) (curText l k e most).2.1 (curText l k e most).2.2):=by
 have hov:=over_calls w h
 by_cases he:e=0
 ·subst he
  have Hov:=Jh hov;clear hov
  have hmax:=curU_max l k 0
  have Hu:=Jh (curU_calls w h (by omega))
  obtain ⟨A,c,hb,hc,hm',⟨hby,hBg⟩,hk⟩:=h
  obtain ⟨c0,c1,c2⟩:=cells3 hb
  generalize hr:curU l k 0=r at *
  obtain ⟨u,k1,e1⟩:=r
  simp only at hmax
  have Hr:=Jh hr
  clear hr
  go_enter Tryz.func70,Tryz.ntmps70
  go_wp2_with fail
  refine Hov.out.mono ?_
  rintro en w' ⟨rfl,rfl⟩
  go_wp2_with fail
  refine Hu.out.mono ?_
  rintro en w1 ⟨rfl,h1,ho⟩
  have h1':=h1
  obtain ⟨A1,cc1,hb1,hc1,hm1,⟨hby1,hBg1⟩,hk1⟩:=h1
  obtain ⟨d0,d1,d2⟩:=cells3 hb1
  clear c0 c1 c2
  by_cases he1:e1=0
  ·subst he1
   by_cases hbad:most<0∨most<(u:Int)
   ·have Hfin:=Jh (curText_2 Hr.out hbad)
    have Hf:=Jh (fail_calls w1 h1' k 5 hk)
    by_cases hneg:most<0
    ·clear hbad
     go_wp2_with fail
     refine Hf.out.mono ?_
     rintro en w2 ⟨rfl,h2,ho2⟩
     go_wp2
     go_ret
     rw [Hfin.out]
     exact ⟨rfl,h2,ho.trans ho2⟩
    ·have hgt:most<(u:Int):=by omega
     have hw:IntKind.u64.wrap most=most:=u64_in (by omega) (by omega)
     clear hbad
     go_wp2_with fail
     refine Hf.out.mono ?_
     rintro en w2 ⟨rfl,h2,ho2⟩
     go_wp2
     go_ret
     rw [Hfin.out]
     exact ⟨rfl,h2,ho.trans ho2⟩
   ·have hu2:(u:Int)≤9223372036854775807:=by omega
    have hneg:¬ most<0:=by omega
    have hgt:¬ most<(u:Int):=by omega
    have hw:IntKind.u64.wrap most=most:=u64_in (by omega) (by omega)
    have Hbad:=Jh hbad;clear hbad
    have hw2:IntKind.u64.wrap ((l.length:Int)-(k1:Int))=(l.length:Int)-(k1:Int):=u64_in (by omega) (by omega)
    have hw3:IntKind.i64.wrap ((l.length:Int)-(k1:Int))=(l.length:Int)-(k1:Int):=by rw [IntKind.wrap_i64];omega
    by_cases hlong:l.length-k1<u
    ·have Hfin:=Jh (curText_3 Hr.out Hbad.out hlong)
     have hlo:(l.length:Int)-(k1:Int)<(u:Int):=by omega
     have hf:=fun wx (hx:Cur 169 wx g B l k1 0)=>fail_calls wx hx k 3 hk
     have Hf:=Jh hf
     clear hf
     go_wp2_with fail
     go_region_held3 (fun w'=>w'.cell? ⟨g,0,none⟩=some (.slice A1 l.length cc1)∧w'.cell? ⟨g,1,none⟩=some (.int .i64 (k1:Int))) (go_keep) (fail)
     go_wp2_with fail
     refine (Hf.out _ ⟨A1,cc1,hb1.drew,hc1,hm1,⟨hby1.drew,hBg1⟩,hk1⟩).mono ?_
     rintro en w2 ⟨rfl,h2,ho2⟩
     go_wp2
     go_ret
     rw [Hfin.out]
     exact ⟨rfl,h2,ho.trans ((Only.refl g w1).drew.trans ho2)⟩
    ·have Hfin:=Jh (curText_4 Hr.out Hbad.out hlong)
     have hlo:¬ (l.length:Int)-(k1:Int)<(u:Int):=by omega
     have hx:Cur 169 w1.drew g B l k1 0:=⟨A1,cc1,hb1.drew,hc1,hm1,⟨hby1.drew,hBg1⟩,hk1⟩
     have hbb:=curBytes_calls w1.drew hx hl (u:Int) hu2
     rw [curBytes_ok hlong hk1] at hbb
     have Hbb:=Jh hbb
     clear hbb hlong
     go_wp2_with fail
     go_region_held3 (fun w'=>w'.cell? ⟨g,0,none⟩=some (.slice A1 l.length cc1)∧w'.cell? ⟨g,1,none⟩=some (.int .i64 (k1:Int))) (go_keep) (fail)
     go_wp2_with fail
     refine Hbb.out.mono ?_
     rintro en w2 ⟨A2,c2,rfl,hc2,hm2,hown2,h2,ho2⟩
     have hby2:=own_bytes hown2
     have kc:=hby2.conv Tryz.prog c2 33 5 9 Tryz.underlying33 Tryz.underlying5 Tryz.underlying9
     generalize (l.drop k1).take u=bs at *
     go_wp2
     go_ret
     rw [Hfin.out]
     exact ⟨rfl,h2,ho.trans ((Only.refl g w1).drew.trans ho2)⟩
  ·have Hfin:=Jh (curText_1 (most:=most) Hr.out he1)
   have q2:((e1:Int) != 0)=true:=net (by omega)
   clear he1
   go_wp2
   go_ret
   rw [Hfin.out]
   exact ⟨rfl,h1',ho⟩
 ·rw [curText_err he]
  rw [decide_eq_true he] at hov
  have Hov:=Jh hov;clear hov he
  go_enter Tryz.func70,Tryz.ntmps70
  go_wp2_with fail
  refine Hov.out.mono ?_
  rintro en w' ⟨rfl,rfl⟩
  go_wp2
  go_ret
  exact ⟨rfl,h,Only.refl g _⟩
set_option maxRecDepth 100000 in
set_option maxHeartbeats 400000 in
theorem rU_calls (w:World) {g B k e:Nat} {l:List UInt8} (h:Cur 145 w g B l k e) (hl:l.length≤1000000000000000) :
  Calls Tryz.prog 116 #[.pointer (some ⟨g,0,none⟩)] w (CurRet 145 w g B l (.int .u64 ((curU l k e).1:Nat)) (curU l k e).2.1 (curU l k e).2.2):=by
 unfold curU
 by_cases he:e=0
 ·subst he
  rw [if_neg (by omega)]
  have hf:=readU_fits l k h.choose_spec.choose_spec.2.2.2.2
  obtain ⟨A,c,hb,hc,hm,⟨hby,hBg⟩,hk⟩:=h
  obtain ⟨c0,c1,c2⟩:=cells3 hb
  have f1:=hb.frozen 1
  have f2:=hb.frozen 2
  go_enter Tryz.func116,Tryz.ntmps116
  go_wp2_with fail
  go_region_held3 (fun w'=>w'.cell? ⟨g,0,none⟩=some (.slice A l.length c)∧w'.cell? ⟨g,1,none⟩=some (.int .i64 (k:Int))) (go_keep) ((go_at_call 137;refine (v_calls _ hby.drew k (by omega)).mono ?_;rintro en w1 ⟨rfl,rfl⟩))
  generalize readU l (k:Int)=r at *
  obtain ⟨x,j,e⟩:=r
  simp only at hf
  have hg:=hb.lt
  go_wp2
  go_ret
  refine ⟨rfl,⟨A,c,?_,hc,hm,⟨hby.only (((Only.refl g w).drew.setCell (.inl rfl) _).setCell (.inl rfl) _) hBg (by omega),hBg⟩,hf⟩,((Only.refl g w).drew.setCell (.inl rfl) _).setCell (.inl rfl) _⟩
  rw [Int.natCast_add]
  exact (hb.drew.set_ 1 _).set_ 2 _
 ·rw [if_pos he]
  have h':=h
  obtain ⟨A,c,hb,-⟩:=h
  obtain ⟨c0,c1,c2⟩:=cells3 hb
  have q:((e:Int) != 0)=true:=net (by omega)
  clear he hb
  go_enter Tryz.func116,Tryz.ntmps116
  go_wp2
  go_ret
  exact ⟨rfl,h',Only.refl g _⟩
theorem curU_err {l:List UInt8} {k e:Nat} (h:e≠0):curU l k e=(0,k,e):=by unfold curU;rw [if_pos h]
set_option maxRecDepth 100000 in
set_option maxHeartbeats 400000 in
theorem rNum_calls (w:World) {g B k e:Nat} {l:List UInt8} (h:Cur 145 w g B l k e) (hl:l.length≤1000000000000000) (most:Int) (hm:most≤9223372036854775807) :
  Calls Tryz.prog 80 #[.pointer (some ⟨g,0,none⟩),.int .i64 most] w (CurRet 145 w g B l (.int .i64 ((curNum l k e most).1:Nat)) (curNum l k e most).2.1 (curNum l k e most).2.2):=by
 have hmax:=curU_max l k e
 have Hu:=Jh (rU_calls w h hl)
 have hk:k≤l.length:=h.choose_spec.choose_spec.2.2.2.2
 obtain ⟨A,c,hb,hc,hm',⟨hby,hBg⟩,-⟩:=h
 obtain ⟨c0,c1,c2⟩:=cells3 hb
 have He:=Jh (fun h=>curU_err (l:=l) (k:=k) (e:=e) h)
 generalize hr:curU l k e=r at *
 obtain ⟨u,k1,e1⟩:=r
 simp only at hmax
 have Hr:=Jh hr
 clear hr
 go_enter Tryz.func80,Tryz.ntmps80
 go_wp2_with fail
 refine Hu.out.mono ?_
 rintro en w1 ⟨rfl,h1,ho⟩
 have h1':=h1
 obtain ⟨A1,cc1,hb1,hc1,hm1,⟨hby1,hBg1⟩,hk1⟩:=h1
 obtain ⟨d0,d1,d2⟩:=cells3 hb1
 have f1:=hb1.frozen 1
 have f2:=hb1.frozen 2
 have hg1:=hb1.lt
 clear c0 c1 c2
 by_cases he1:e1=0
 ·subst he1
  have he:e=0:=by
   by_cases he:e=0
   ·exact he
   ·have:=He.out he;injection this with _ h2;injection h2 with _ h3;exact h3.symm ▸ rfl
  subst he
  by_cases hbad:most<0∨most<(u:Int)
  ·have Hfin:=Jh (curNum_2 Hr.out hbad)
   have hw:0≤most→IntKind.u64.wrap most=most:=fun h=>u64_in h (by omega)
   by_cases hneg:most<0
   ·clear hbad hw
    go_wp2
    go_ret
    rw [Hfin.out]
    exact ⟨rfl,⟨A1,cc1,(hb1.set_ 1 _).set_ 2 _,hc1,hm1,⟨hby1.only (((Only.refl g w1).setCell (.inl rfl) _).setCell (.inl rfl) _) hBg1 (by omega),hBg1⟩,hk⟩,ho.trans (((Only.refl g w1).setCell (.inl rfl) _).setCell (.inl rfl) _)⟩
   ·have hgt:most<(u:Int):=by omega
    have hw2:=hw (by omega)
    clear hbad hw
    go_wp2
    go_ret
    rw [Hfin.out]
    exact ⟨rfl,⟨A1,cc1,(hb1.set_ 1 _).set_ 2 _,hc1,hm1,⟨hby1.only (((Only.refl g w1).setCell (.inl rfl) _).setCell (.inl rfl) _) hBg1 (by omega),hBg1⟩,hk⟩,ho.trans (((Only.refl g w1).setCell (.inl rfl) _).setCell (.inl rfl) _)⟩
  ·have Hfin:=Jh (curNum_3 Hr.out hbad)
   have hu2:(u:Int)≤9223372036854775807:=by omega
   have hneg:¬ most<0:=by omega
   have hgt:¬ most<(u:Int):=by omega
   have hw:IntKind.u64.wrap most=most:=u64_in (by omega) (by omega)
   clear hbad
   go_wp2
   go_ret
   rw [Hfin.out]
   exact ⟨rfl,h1',ho⟩
 ·have Hfin:Hid (curNum l k e most=(0,k1,e1)):=by
   by_cases he:e=0
   ·subst he;exact curNum_1 Hr.out he1
   ·have:=He.out he
    injection this with _ h2;injection h2 with h3 h4
    subst h3 h4;exact curNum_err he
  have q2:((e1:Int) != 0)=true:=net (by omega)
  clear he1
  go_wp2
  go_ret
  rw [Hfin.out]
  exact ⟨rfl,h1',ho⟩
theorem curBytes_err {l:List UInt8} {k e:Nat} {n:Int} (h:e≠0):curBytes l k e n=([],k,e):=by unfold curBytes;rw [if_pos h]
theorem curBytes_bad {l:List UInt8} {k:Nat} {n:Int} (h:n<0∨(l.length:Int)-(k:Int)<n):curBytes l k 0 n=([],k,3):=by unfold curBytes;rw [if_neg (by omega),if_pos h]
set_option maxRecDepth 100000 in
set_option maxHeartbeats 400000 in
theorem rBytes_calls (w:World) {g B k e:Nat} {l:List UInt8} (h:Cur 145 w g B l k e) (hl:l.length≤140737488351232) (n:Int) (hn:n≤9223372036854775807) :
  Calls Tryz.prog 79 #[.pointer (some ⟨g,0,none⟩),.int .i64 n] w (CurRetB 145 w g B l (curBytes l k e n).1 (curBytes l k e n).2.1 (curBytes l k e n).2.2):=by
 have h':=h
 obtain ⟨A,c,hb,hc,hm',⟨hby,hBg⟩,hk⟩:=h
 obtain ⟨c0,c1,c2⟩:=cells3 hb
 have f1:=hb.frozen 1
 have f2:=hb.frozen 2
 have hg:=hb.lt
 by_cases he:e=0
 ·subst he
  by_cases hbad:n<0∨(l.length:Int)-(k:Int)<n
  ·rw [curBytes_bad hbad]
   have hnd:n<0∨(¬ n<0∧(l.length:Int)-(k:Int)<n):=by omega
   have i9:IntKind.i64.wrap ((l.length:Int)-(k:Int))=(l.length:Int)-(k:Int):=by rw [IntKind.wrap_i64];omega
   clear hbad
   rcases hnd with hneg|⟨hneg,hgt⟩
   all_goals
    go_enter Tryz.func79,Tryz.ntmps79
    go_wp2_with fail
    go_quiet (fail)
    go_wp2
    go_ret
    exact ⟨none,0,rfl,Nat.le_refl _,Nat.zero_le _,World.ownsRow_nil _ _ _ _,⟨A,c,(hb.drewN _).set_ 2 _,hc,hm',⟨hby.only (((Only.refl g w).drewN _).setCell (.inl rfl) _) hBg (by omega),hBg⟩,hk⟩,((Only.refl g w).drewN _).setCell (.inl rfl) _⟩
  ·obtain ⟨m,rfl⟩:=Int.eq_ofNat_of_zero_le (show 0≤n by omega)
   rw [curBytes_ok (by omega) hk]
   have hneg:¬ (m:Int)<0:=by omega
   have hgt:¬ (l.length:Int)-(k:Int)<(m:Int):=by omega
   have hgd:decide ((m:Int)<0)=false:=dcf hneg
   have hmk:m≤l.length-k:=by omega
   have hlen:((l.drop k).take m).length=m:=by simp;omega
   have i1:(k:Int)+(m:Int)≤(c:Int):=by omega
   have i2:(0:Int)≤(k:Int):=by omega
   have i3:(k:Int)≤(k:Int)+(m:Int):=by omega
   have i6:(0:Int)≤(k:Int)+(m:Int):=by omega
   have i7:((k:Int)+(m:Int)).toNat=k+m:=by omega
   have i5:IntKind.i64.wrap ((k:Int)+(m:Int))=(k:Int)+(m:Int):=by rw [IntKind.wrap_i64];omega
   have hby3:=(hby.cutted hk hc).taken hmk
   generalize hbs:(l.drop k).take m=bs at *
   clear hbad hbs
   clear h'
   have hl2:=hby3.1
   have hT:=fun (wx:World) (A3:Option Addr) (c3:Nat) (hx:Bytes wx B A3 m bs) (hs:B≤wx.heap.size)=>twin_calls wx (c:=c3) hx hs (by omega)
   have HT:=Jh hT
   clear hT
   by_cases hck:c=k
   ·subst hck
    rw [if_pos rfl] at hby3
    go_enter Tryz.func79,Tryz.ntmps79
    go_wp2_with fail
    go_quiet (fail)
    go_wp2_with fail
    go_region_held3 (fun w'=>w'.cell? ⟨g,0,none⟩=some (.slice A l.length c)∧w'.cell? ⟨g,1,none⟩=some (.int .i64 (c:Int))) (go_keep) ((go_at_call 49;refine (HT.out _ _ _ (hby3.drewN _) (Nat.le_trans hBg (Nat.le_of_lt hg))).mono ?_;rintro en w5 h5;obtain ⟨A5,c5,rfl,hc5,hm5,hb5,hbel5,hown5⟩:=h5.opened;clear h5;have e0:=(hbel5.cell (p:=⟨g,0,none⟩) hg).trans c0;have e1:=(hbel5.cell (p:=⟨g,1,none⟩) hg).trans c1))
    have hb5':=(hb.drewN (nq+1)).below hbel5 hg
    have f1':=hb5'.frozen 1
    have hs5:=hbel5.size
    have hown6:=Jh (ownsRow_setCell_below hown5 (a:=⟨g,1,none⟩) hg (.int .i64 ((c:Int)+(m:Int))))
    have ho5:Only g w w5:=((Only.refl g w).drewN (nq+1)).trans (Only.of_below hbel5)
    clear hown5 hb5
    go_wp2
    go_ret
    refine ⟨A5,c5,(congrArg (fun x=>Ending.returned (.slice A5 x c5)) hlen).symm,hc5,hm5,hown6.out,⟨A,c,?_,hc,hm',⟨hby.only (ho5.setCell (.inl rfl) _) hBg (by omega),hBg⟩,by omega⟩,ho5.setCell (.inl rfl) _⟩
    rw [Int.natCast_add];exact hb5'.set_ 1 _
   ·rw [if_neg hck] at hby3
    go_enter Tryz.func79,Tryz.ntmps79
    go_wp2_with fail
    go_quiet (fail)
    go_wp2_with fail
    go_region_held3 (fun w'=>w'.cell? ⟨g,0,none⟩=some (.slice A l.length c)∧w'.cell? ⟨g,1,none⟩=some (.int .i64 (k:Int))) (go_keep) ((go_at_call 49;refine (HT.out _ _ _ (hby3.drewN _) (Nat.le_trans hBg (Nat.le_of_lt hg))).mono ?_;rintro en w5 h5;obtain ⟨A5,c5,rfl,hc5,hm5,hb5,hbel5,hown5⟩:=h5.opened;clear h5;have e0:=(hbel5.cell (p:=⟨g,0,none⟩) hg).trans c0;have e1:=(hbel5.cell (p:=⟨g,1,none⟩) hg).trans c1))
    have hb5':=(hb.drewN (nq+1)).below hbel5 hg
    have f1':=hb5'.frozen 1
    have hs5:=hbel5.size
    have hown6:=Jh (ownsRow_setCell_below hown5 (a:=⟨g,1,none⟩) hg (.int .i64 ((k:Int)+(m:Int))))
    have ho5:Only g w w5:=((Only.refl g w).drewN (nq+1)).trans (Only.of_below hbel5)
    clear hown5 hb5
    go_wp2
    go_ret
    refine ⟨A5,c5,(congrArg (fun x=>Ending.returned (.slice A5 x c5)) hlen).symm,hc5,hm5,hown6.out,⟨A,c,?_,hc,hm',⟨hby.only (ho5.setCell (.inl rfl) _) hBg (by omega),hBg⟩,by omega⟩,ho5.setCell (.inl rfl) _⟩
    rw [Int.natCast_add];exact hb5'.set_ 1 _
 ·rw [curBytes_err he]
  have q:((e:Int) != 0)=true:=net (by omega)
  clear he
  go_enter Tryz.func79,Tryz.ntmps79
  go_wp2
  go_ret
  exact ⟨none,0,rfl,Nat.le_refl _,Nat.zero_le _,World.ownsRow_nil _ _ _ _,h',Only.refl g _⟩
set_option maxRecDepth 100000 in
set_option maxHeartbeats 400000 in
theorem rText_calls (w:World) {g B k e:Nat} {l:List UInt8} (h:Cur 145 w g B l k e) (hl:l.length≤140737488351232) (most:Int) (hm:most≤9223372036854775807) :
  Calls Tryz.prog 81 #[.pointer (some ⟨g,0,none⟩),.int .i64 most] w (CurRet 145 w g B l (.string ⟨(curText l k e most).1.toArray⟩) (curText l k e most).2.1 (curText l k e most).2.2):=by
 have hmax:=curU_max l k e
 have Hu:=Jh (rU_calls w h (by omega))
 have hk:k≤l.length:=h.choose_spec.choose_spec.2.2.2.2
 obtain ⟨A,c,hb,hc,hm',⟨hby,hBg⟩,-⟩:=h
 obtain ⟨c0,c1,c2⟩:=cells3 hb
 have He:=Jh (fun h=>curU_err (l:=l) (k:=k) (e:=e) h)
 generalize hr:curU l k e=r at *
 obtain ⟨u,k1,e1⟩:=r
 simp only at hmax
 have Hr:=Jh hr
 clear hr
 go_enter Tryz.func81,Tryz.ntmps81
 go_wp2_with fail
 refine Hu.out.mono ?_
 rintro en w1 ⟨rfl,h1,ho⟩
 have h1':=h1
 obtain ⟨A1,cc1,hb1,hc1,hm1,⟨hby1,hBg1⟩,hk1⟩:=h1
 obtain ⟨d0,d1,d2⟩:=cells3 hb1
 have f1:=hb1.frozen 1
 have f2:=hb1.frozen 2
 have hg1:=hb1.lt
 clear c0 c1 c2
 by_cases he1:e1=0
 ·subst he1
  have he:e=0:=by
   by_cases he:e=0
   ·exact he
   ·have:=He.out he;injection this with _ h2;injection h2 with _ h3;exact h3.symm ▸ rfl
  subst he
  by_cases hbad:most<0∨most<(u:Int)
  ·have Hfin:=Jh (curText_2 Hr.out hbad)
   have hw:0≤most→IntKind.u64.wrap most=most:=fun h=>u64_in h (by omega)
   by_cases hneg:most<0
   ·clear hbad hw
    go_wp2
    go_ret
    rw [Hfin.out]
    exact ⟨rfl,⟨A1,cc1,(hb1.set_ 1 _).set_ 2 _,hc1,hm1,⟨hby1.only (((Only.refl g w1).setCell (.inl rfl) _).setCell (.inl rfl) _) hBg1 (by omega),hBg1⟩,hk⟩,ho.trans (((Only.refl g w1).setCell (.inl rfl) _).setCell (.inl rfl) _)⟩
   ·have hgt:most<(u:Int):=by omega
    have hw2:=hw (by omega)
    clear hbad hw
    go_wp2
    go_ret
    rw [Hfin.out]
    exact ⟨rfl,⟨A1,cc1,(hb1.set_ 1 _).set_ 2 _,hc1,hm1,⟨hby1.only (((Only.refl g w1).setCell (.inl rfl) _).setCell (.inl rfl) _) hBg1 (by omega),hBg1⟩,hk⟩,ho.trans (((Only.refl g w1).setCell (.inl rfl) _).setCell (.inl rfl) _)⟩
  ·have hu2:(u:Int)≤9223372036854775807:=by omega
   have hneg:¬ most<0:=by omega
   have hgt:¬ most<(u:Int):=by omega
   have hw:IntKind.u64.wrap most=most:=u64_in (by omega) (by omega)
   have Hbad:=Jh hbad;clear hbad
   have hw2:IntKind.u64.wrap ((l.length:Int)-(k1:Int))=(l.length:Int)-(k1:Int):=u64_in (by omega) (by omega)
   have hw3:IntKind.i64.wrap ((l.length:Int)-(k1:Int))=(l.length:Int)-(k1:Int):=by rw [IntKind.wrap_i64];omega
   by_cases hlong:l.length-k1<u
   ·have Hfin:=Jh (curText_3 Hr.out Hbad.out hlong)
    have hlo:(l.length:Int)-(k1:Int)<(u:Int):=by omega
    go_wp2_with fail
    go_region_held3 (fun w'=>w'.cell? ⟨g,0,none⟩=some (.slice A1 l.length cc1)∧w'.cell? ⟨g,1,none⟩=some (.int .i64 (k1:Int))) (go_keep) (fail)
    go_wp2
    go_ret
    rw [Hfin.out]
    exact ⟨rfl,⟨A1,cc1,(hb1.drew.set_ 1 _).set_ 2 _,hc1,hm1,⟨hby1.only (((Only.refl g w1).drew.setCell (.inl rfl) _).setCell (.inl rfl) _) hBg1 (by omega),hBg1⟩,hk⟩,ho.trans (((Only.refl g w1).drew.setCell (.inl rfl) _).setCell (.inl rfl) _)⟩
   ·have Hfin:=Jh (curText_4 Hr.out Hbad.out hlong)
    have hlo:¬ (l.length:Int)-(k1:Int)<(u:Int):=by omega
    have hx:Cur 145 w1.drew g B l k1 0:=⟨A1,cc1,hb1.drew,hc1,hm1,⟨hby1.drew,hBg1⟩,hk1⟩
    have hbb:=rBytes_calls w1.drew hx hl (u:Int) hu2
    rw [curBytes_ok hlong hk1] at hbb
    have Hbb:=Jh hbb
    clear hbb hlong
    go_wp2_with fail
    go_region_held3 (fun w'=>w'.cell? ⟨g,0,none⟩=some (.slice A1 l.length cc1)∧w'.cell? ⟨g,1,none⟩=some (.int .i64 (k1:Int))) (go_keep) (fail)
    go_wp2_with fail
    refine Hbb.out.mono ?_
    rintro en w2 ⟨A2,c2,rfl,hc2,hm2,hown2,h2,ho2⟩
    have hby2:=own_bytes hown2
    have kc:=hby2.conv Tryz.prog c2 33 5 9 Tryz.underlying33 Tryz.underlying5 Tryz.underlying9
    generalize (l.drop k1).take u=bs at *
    go_wp2
    go_ret
    rw [Hfin.out]
    exact ⟨rfl,h2,ho.trans ((Only.refl g w1).drew.trans ho2)⟩
 ·have Hfin:Hid (curText l k e most=([],k1,e1)):=by
   by_cases he:e=0
   ·subst he;exact curText_1 Hr.out he1
   ·have:=He.out he
    injection this with _ h2;injection h2 with h3 h4
    subst h3 h4;exact curText_err he
  have q2:((e1:Int) != 0)=true:=net (by omega)
  clear he1
  go_wp2
  go_ret
  rw [Hfin.out]
  exact ⟨rfl,h1',ho⟩
theorem curEnd_0 {l:List UInt8} {k e:Nat} (h:e≠0):curEnd l k e=e:=by unfold curEnd;rw [if_pos h]
theorem curEnd_1 {l:List UInt8} {k:Nat} (h:k<l.length):curEnd l k 0=5:=by unfold curEnd;rw [if_neg (by omega),if_pos h]
theorem curEnd_2 {l:List UInt8} {k:Nat} (h:¬ k<l.length):curEnd l k 0=0:=by unfold curEnd;rw [if_neg (by omega),if_neg h]
set_option maxRecDepth 100000 in
theorem rEnd_calls (w:World) {g B k e:Nat} {l:List UInt8} (h:Cur 145 w g B l k e) :
  Calls Tryz.prog 82 #[.pointer (some ⟨g,0,none⟩)] w fun en w'=>en=.returned (.int .i64 (curEnd l k e:Nat))∧∃ n,w'=w.drewN n:=by
 obtain ⟨A,c,hb,-⟩:=h
 obtain ⟨c0,c1,c2⟩:=cells3 hb
 clear hb
 by_cases he:e=0
 ·subst he
  by_cases hk:k<l.length
  ·rw [curEnd_1 hk]
   have hkd:(k:Int)<(l.length:Int):=by omega
   go_enter Tryz.func82,Tryz.ntmps82
   go_wp2_with fail
   go_quiet (fail)
   go_wp2
   go_ret
   exact ⟨rfl,_,rfl⟩
  ·rw [curEnd_2 hk]
   have hkd:¬ (k:Int)<(l.length:Int):=by omega
   go_enter Tryz.func82,Tryz.ntmps82
   go_wp2_with fail
   go_quiet (fail)
   go_wp2
   go_ret
   exact ⟨rfl,_,rfl⟩
 ·rw [curEnd_0 he]
  have q:((e:Int) == 0)=false:=eqf (by omega)
  clear he
  go_enter Tryz.func82,Tryz.ntmps82
  go_wp2_with fail
  go_quiet (fail)
  go_wp2
  go_ret
  exact ⟨rfl,_,rfl⟩
end Go.Proofs.YtibnehaibgbliaaGreat.Nu
namespace Go.Proofs.YtibnehaibgbliaaGreat.Cr
open Go.RowKit
theorem Tryz.infoU8:(Tryz.prog.info? 5).map (fun i=>(i.zero,i.size,i.bytes))=some (some (.int .u8 0),1,1):=by kernel_rfl
theorem same_calls (w:World) {B1 B2:Nat} {A1 A2:Option Addr} {n1 n2 c1 c2:Nat} {l1 l2:List UInt8} (h1:Bytes w B1 A1 n1 l1) (h2:Bytes w B2 A2 n2 l2) :
  Calls Tryz.prog 115 #[.slice A1 n1 c1,.slice A2 n2 c2] w fun e w'=>e=.returned (.bool (l1 == l2))∧w=w':=by
 have k1:=h1.conv Tryz.prog c1 33 5 9 Tryz.underlying33 Tryz.underlying5 Tryz.underlying9
 have k2:=h2.conv Tryz.prog c2 33 5 9 Tryz.underlying33 Tryz.underlying5 Tryz.underlying9
 clear h1 h2
 go_enter Tryz.func115,Tryz.ntmps115
 go_wp2
 go_ret
 exact ⟨rfl,rfl⟩
theorem twin_calls (w:World) {B:Nat} {A:Option Addr} {n c:Nat} {l:List UInt8} (h:Bytes w B A n l) (hB:B≤w.heap.size) (hn:n≤140737488355328) :
  Calls Tryz.prog 49 #[.slice A n c] w (RetBytes 5 w l):=by
 go_enter Tryz.func49,Tryz.ntmps49
 go_wp2_with (at_builtin;go_must (refine wpList_append_any _ rfl (.tmp 3) (.tmp 4) _ rfl w.heap.size 5 _ 1 1 Tryz.underlying33 Tryz.infoU8 rfl (by omega) _ _ _ rfl (World.ownsRow_made w #[] 0 (Nat.le_refl _) (Nat.zero_le _) rfl) B A n c (l.map byteV) rfl (h.to ((Below.refl B w).alloc hB _) (Nat.le_refl _)).2 (byteV_one l) (by unfold maxLen;omega) (by omega) (by simp) ?_))
 intro v' w1 hown hbel _ _
 have hown2:w1.ownsRow w.heap.size 5 1 v' l.length (l.map byteV):=by have hl:=h.1;subst hl;simpa using hown
 go_wp2
 go_ret
 exact ⟨_,rfl,hown2,((Below.refl _ _).alloc (Nat.le_refl _) _).trans hbel⟩
set_option maxRecDepth 100000 in
set_option maxHeartbeats 400000 in
theorem row_calls (x:Nat) (w:World) (hx:x<16) :
  Calls Tryz.prog 141 #[.int .u32 (x:Int)] w fun e w'=>e=.returned (.int .u32 (row x:Nat))∧w=w':=by
 have h:x=0∨x=1∨x=2∨x=3∨x=4∨x=5∨x=6∨x=7∨x=8∨x=9∨x=10∨x=11∨x=12∨x=13∨x=14∨x=15:=by omega
 clear hx
 rcases h with rfl|rfl|rfl|rfl|rfl|rfl|rfl|rfl|rfl|rfl|rfl|rfl|rfl|rfl|rfl|rfl
 all_goals
  go_enter Tryz.func141,Tryz.ntmps141
  go_wp2
  go_ret
  exact ⟨rfl,rfl⟩
theorem u32_xor_n (a b:Nat) (ha:a<4294967296) (hb:b<4294967296):bits .xor .u32 (a:Int) (b:Int)=((a ^^^ b:Nat):Int):=by
 have hx:a ^^^ b<2 ^ 32:=Nat.xor_lt_two_pow (by omega) (by omega)
 have h1:∀ n:Nat,n<4294967296→(BitVec.ofInt 32 (n:Int)).toNat=n:=by
  intro n hn
  rw [BitVec.ofInt_natCast,BitVec.toNat_ofNat];exact Nat.mod_eq_of_lt (by omega)
 show IntKind.u32.wrap ((BitVec.ofInt 32 (a:Int) ^^^ BitVec.ofInt 32 (b:Int)).toNat:Int)=_
 rw [BitVec.toNat_xor,h1 a ha,h1 b hb,IntKind.wrap_u32]
 omega
theorem u32_and15 (a:Nat) (ha:a<4294967296):bits .and .u32 (a:Int) 15=((a%16:Nat):Int):=by
 have h1:∀ n:Nat,n<4294967296→(BitVec.ofInt 32 (n:Int)).toNat=n:=by
  intro n hn
  rw [BitVec.ofInt_natCast,BitVec.toNat_ofNat];exact Nat.mod_eq_of_lt (by omega)
 show IntKind.u32.wrap ((BitVec.ofInt 32 (a:Int) &&& BitVec.ofInt 32 ((15:Nat):Int)).toNat:Int)=_
 rw [BitVec.toNat_and,h1 a ha,h1 15 (by omega),IntKind.wrap_u32,show (15:Nat)=2 ^ 4-1 from rfl,Nat.and_two_pow_sub_one_eq_mod]
 omega
theorem u32_not (T:Nat) (h:T≤4294967295):bits .xor .u32 IntKind.u32.max (T:Int)=((4294967295-T:Nat):Int):=by
 have e:IntKind.u32.max=((4294967295:Nat):Int):=rfl
 rw [e,u32_xor_n _ _ (by omega) (by omega),Nat.xor_comm,← not32 (by omega)]
theorem nib_int (c:Nat) (h:c<4294967296) (e:Int) (he:e=(c:Int)/16):bits .xor .u32 e ((row (c%16):Nat):Int)=((nib c:Nat):Int):=by
 subst he
 have hr:∀ r:Fin 16,row r.val<4294967296:=by decide
 have e1:(c:Int)/16=((c/16:Nat):Int):=by omega
 have:=hr ⟨c%16,by omega⟩
 rw [e1,u32_xor_n _ _ (by omega) this];rfl
theorem wr1 {m x:Nat} (hm:m<4294967296) (hx:x<256):bits .xor .u32 (m:Int) ((x:Int)%4294967296)=((m ^^^ x:Nat):Int):=by
 have e:(x:Int)%4294967296=(x:Int):=by omega
 rw [e,u32_xor_n _ _ hm (by omega)]
theorem crc_next {m k C:Nat} {l:List UInt8} (hk:k<l.length) (h:crcRun m (l.drop k)=C):crcRun (nib (nib (m ^^^ l[k].toNat))) (l.drop (k+1))=C:=by
 rw [nib_step,← crcRun_cons,← List.drop_eq_getElem_cons hk];exact h
theorem crc_next' {m k C:Nat} {l:List UInt8} (hk:k<l.length) (h:crcRun m (l.drop k)=C):crcRun (crcStep m l[k].toNat) (l.drop (k+1))=C:=by
 rw [← crcRun_cons,← List.drop_eq_getElem_cons hk];exact h
theorem bits_next {m k C:Nat} (hk:k<8) (h:bits_ (8-k) m=C):bits_ (8-(k+1)) (bit m)=C:=by
 have e:8-k=(8-(k+1))+1:=by omega
 rw [e] at h;exact h
theorem bits_last {m k C:Nat} (hk:8≤k) (h:bits_ (8-k) m=C):C=m:=by
 have e:8-k=0:=by omega
 rw [e] at h;exact h.symm
theorem crc_last {m C:Nat} {l:List UInt8} {n:Nat} (hl:l.length=n) (h:crcRun m (l.drop n)=C):C=m:=by
 rw [← hl,List.drop_length,crcRun_nil] at h;exact h.symm
theorem row_calls' (x:Nat) (a:Int) (w:World) (hx:x<16) (h:a=(x:Int)) :
  Calls Tryz.prog 141 #[.int .u32 a] w fun e w'=>e=.returned (.int .u32 (row x:Nat))∧w=w':=by
 subst h;exact row_calls x w hx
def wroteN (T:Nat) (l:List UInt8):Nat:=4294967295-crcRun (4294967295-T) l
set_option maxRecDepth 100000 in
set_option maxHeartbeats 800000 in
theorem write_calls (w:World) {g B n c T:Nat} {A:Option Addr} {l:List UInt8} (hb:Blk w g 184 #[.int .u32 (T:Int)]) (h:Bytes w B A n l) (hT:T≤4294967295) (hn:n≤140737488355328) :
  Calls Tryz.prog 120 #[.pointer (some ⟨g,0,none⟩),.slice A n c] w fun e w'=>e=.returned (.tuple #[])∧Blk w' g 184 #[.int .u32 ((wroteN T l:Nat):Int)]∧Only g w w':=by
 have c0:=hb.cell 0
 have f0:=hb.frozen 0
 have hl:=h.len
 go_enter Tryz.func120,Tryz.ntmps120
 have h1:¬ IntKind.u32.signed=true:=by decide
 have h2:=Jh (u32_not T hT)
 go_wp2
 go_loopw [4,16] (fun c i wr=>∃ (m k:Nat),i=.int .i64 (k:Int)∧c=.int .u32 (m:Int)∧m<4294967296∧k≤n∧Hid (crcRun m (l.drop k)=crcRun (4294967295-T) l)∧wr=w) (fun _ i _=>n-(intOf i).toNat)
 case atStart=>exact ⟨4294967295-T,0,rfl,by rw [h2.out],by omega,by omega,Jh rfl,rfl⟩
 case round =>
  obtain ⟨m,k,rfl,rfl,hm,hk,hrun,rfl⟩:=hrel
  by_cases hlt:k<n
  ·obtain ⟨b,off,rfl,hbB,hcell⟩:=h.cell hlt
   have hck:=hcell k hlt
   have hlt':k<l.length:=by omega
   have E1:=Jh (wr1 hm (UInt8.toNat_lt l[k]))
   have hx1:m ^^^ l[k].toNat<4294967296:=Nat.xor_lt_two_pow (n:=32) (by omega) (Nat.lt_of_lt_of_le (UInt8.toNat_lt l[k]) (by decide))
   have Hc:=Jh (crc_next (m:=m) (l:=l) hlt' hrun.out)
   go_wp2_with fail
   refine (row_calls' ((m ^^^ l[k].toNat)%16) _ wr (by omega) (by rw [E1.out,u32_and15 _ hx1])).mono ?_
   rintro en w' ⟨rfl,rfl⟩
   have hn1:nib (m ^^^ l[k].toNat)<4294967296:=nib_lt hx1
   have E2:=Jh (nib_int _ hx1 (bits .xor .u32 (m:Int) ((l[k].toNat:Int)%4294967296)/16) (by rw [E1.out]))
   go_wp2_with fail
   refine (row_calls' (nib (m ^^^ l[k].toNat)%16) _ wr (by omega) (by rw [E2.out,u32_and15 _ hn1])).mono ?_
   rintro en w' ⟨rfl,rfl⟩
   have E3:=Jh (nib_int _ hn1 (bits .xor .u32 (bits .xor .u32 (m:Int) ((l[k].toNat:Int)%4294967296)/16) ((row ((m ^^^ l[k].toNat)%16):Nat):Int)/16) (by rw [E2.out]))
   go_wp2
   go_roundw
   case rel=>exact ⟨nib (nib (m ^^^ l[k].toNat)),k+1,by go_num,by rw [E3.out],nib_lt hn1,by omega,Hc,trivial⟩
   case measure=>simp [intOf];omega
  ·have hk2:k=n:=by omega
   subst hk2
   have Hf:=Jh (crc_last (hl:=hl) hrun.out)
   have h3:=Jh (u32_not m (by omega))
   have hg:=hb.lt
   go_wp2
   go_end0
   refine ⟨rfl,?_,(Only.refl g _).setCell (.inl rfl) _⟩
   have h4:=hb.set_ 0 (.int .u32 ((wroteN T l:Nat):Int))
   have e:wroteN T l=4294967295-m:=by unfold wroteN;rw [Hf.out]
   rw [h3.out,← e]
   exact h4
theorem dsum_calls (w:World) {g T:Nat} (hb:Blk w g 184 #[.int .u32 (T:Int)]) :
  Calls Tryz.prog 121 #[.pointer (some ⟨g,0,none⟩)] w fun e w'=>e=.returned (.int .u32 (T:Int))∧w=w':=by
 have c0:=hb.cell 0
 go_enter Tryz.func121,Tryz.ntmps121
 go_wp2
 go_ret
 exact ⟨rfl,rfl⟩
theorem bit_odd {c:Nat} (h:c<4294967296) (ho:c%2=1):bits .xor .u32 ((c:Int)/2) 3988292384=((bit c:Nat):Int):=by
 have e1:(c:Int)/2=((c/2:Nat):Int):=by omega
 have e2:(3988292384:Int)=((3988292384:Nat):Int):=rfl
 rw [e1,e2,u32_xor_n _ _ (by omega) (by omega)]
 unfold bit poly;rw [if_pos ho]
theorem bit_even {c:Nat} (ho:¬ c%2=1):(c:Int)/2=((bit c:Nat):Int):=by
 unfold bit;rw [if_neg ho];omega
set_option maxRecDepth 100000 in
set_option maxHeartbeats 800000 in
theorem step_calls (c:Nat) (x:UInt8) (w:World) (hc:c<4294967296) :
  Calls Tryz.prog 114 #[.int .u32 (c:Int),.int .u8 (x.toNat:Int)] w fun e w'=>e=.returned (.int .u32 ((crcStep c x.toNat:Nat):Int))∧w=w':=by
 have E1:=Jh (wr1 hc (UInt8.toNat_lt x))
 have hx1:c ^^^ x.toNat<4294967296:=Nat.xor_lt_two_pow (n:=32) (by omega) (Nat.lt_of_lt_of_le (UInt8.toNat_lt x) (by decide))
 go_enter Tryz.func114,Tryz.ntmps114
 go_wp2
 go_loop [0,5] (fun r i=>∃ (m k:Nat),i=.int .i64 (k:Int)∧r=.int .u32 (m:Int)∧m<4294967296∧k≤8∧Hid (bits_ (8-k) m=crcStep c x.toNat)) (fun _ i=>8-(intOf i).toNat)
 case atStart=>exact ⟨c ^^^ x.toNat,0,rfl,by rw [E1.out],hx1,by omega,Jh rfl⟩
 case round =>
  obtain ⟨m,k,rfl,rfl,hm,hk,hrun⟩:=hrel
  by_cases hlt:k<8
  ·have Hn:=Jh (bits_next hlt hrun.out)
   have hbl:bit m<4294967296:=bit_lt hm
   by_cases ho:m%2=1
   ·have E2:=Jh (bit_odd hm ho)
    have q:((m:Int)%2 == 1)=true:=eqt (by omega)
    clear ho
    go_wp2
    go_round
    case rel=>exact ⟨bit m,k+1,by go_num,by rw [E2.out],hbl,by omega,Hn⟩
    case measure=>simp [intOf];omega
   ·have E2:=Jh (bit_even ho)
    have q:((m:Int)%2 == 1)=false:=eqf (by omega)
    clear ho
    go_wp2
    go_round
    case rel=>exact ⟨bit m,k+1,by go_num,by rw [E2.out],hbl,by omega,Hn⟩
    case measure=>simp [intOf];omega
  ·have Hf:=Jh (bits_last (by omega) hrun.out)
   go_wp2
   go_ret
   exact ⟨by rw [Hf.out];rfl,rfl⟩
set_option maxRecDepth 100000 in
set_option maxHeartbeats 800000 in
theorem sumR_calls (w:World) {B n c:Nat} {A:Option Addr} {l:List UInt8} (h:Bytes w B A n l) (hn:n≤140737488355328) :
  Calls Tryz.prog 77 #[.slice A n c] w fun e w'=>e=.returned (.int .u32 ((crcOf l:Nat):Int))∧w=w':=by
 have hl:=h.len
 have h1:¬ IntKind.u32.signed=true:=by decide
 go_enter Tryz.func77,Tryz.ntmps77
 go_wp2
 go_loop [3,8] (fun r i=>∃ (m k:Nat),i=.int .i64 (k:Int)∧r=.int .u32 (m:Int)∧m<4294967296∧k≤n∧Hid (crcRun m (l.drop k)=crcRun 4294967295 l)) (fun _ i=>n-(intOf i).toNat)
 case atStart=>exact ⟨4294967295,0,rfl,rfl,by omega,by omega,Jh rfl⟩
 case round =>
  obtain ⟨m,k,rfl,rfl,hm,hk,hrun⟩:=hrel
  by_cases hlt:k<n
  ·obtain ⟨b,off,rfl,hbB,hcell⟩:=h.cell hlt
   have hck:=hcell k hlt
   have hlt':k<l.length:=by omega
   have Hc:=Jh (crc_next' (m:=m) (l:=l) hlt' hrun.out)
   go_wp2_with fail
   refine (step_calls m l[k] w hm).mono ?_
   rintro en w' ⟨rfl,rfl⟩
   go_wp2
   go_round
   case rel=>exact ⟨crcStep m l[k].toNat,k+1,by go_num,rfl,crcStep_lt hm (UInt8.toNat_lt _),by omega,Hc⟩
   case measure=>simp [intOf];omega
  ·have hk2:k=n:=by omega
   subst hk2
   have Hf:=Jh (crc_last (hl:=hl) hrun.out)
   have h3:=Jh (u32_not m (by omega))
   go_wp2
   go_ret
   refine ⟨?_,rfl⟩
   rw [h3.out];unfold crcOf;rw [Hf.out];rfl
end Go.Proofs.YtibnehaibgbliaaGreat.Cr
