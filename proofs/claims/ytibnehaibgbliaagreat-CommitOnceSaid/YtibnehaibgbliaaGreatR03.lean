/- Laws for the row's walk. -/
import Derived.Test.YtibnehaibgbliaaGreatR02
set_option linter.unusedVariables false
set_option linter.unusedSimpArgs false
open Go.Lib renaming hid → Jh
open List renaming getElem?_toArray → Ja, getElem?_cons_zero → Jb, getElem?_cons_succ → Jc
namespace Go.Proofs.YtibnehaibgbliaaGreat.Lb
open Go.RowKit
theorem drop_S {S T:List UInt8} (hS:S=123::(T++[125])) {q:Nat} (hq:q≤T.length):S.drop (1+q)=T.drop q++[125]:=by
 rw [hS,Nat.add_comm,List.drop_succ_cons,List.drop_append_of_le_length hq]
theorem letters_pre:∀ {a b X Y:List UInt8} {c d:UInt8},(∀ x∈a,letterB x=true)→(∀ x∈b,letterB x=true)→letterB c=false→letterB d=false→a++c::X=b++d::Y→a=b∧c::X=d::Y
 | [],[],_,_,_,_,_,_,_,_,h=>⟨rfl,h⟩
 | [],y::b,_,_,c,_,_,hb,hc,_,h=>by
  simp only [List.nil_append,List.cons_append,List.cons.injEq] at h
  have:=hb y (by simp)
  rw [← h.1,hc] at this
  cases this
 | x::a,[],_,_,_,d,ha,_,_,hd,h=>by
  simp only [List.nil_append,List.cons_append,List.cons.injEq] at h
  have:=ha x (by simp)
  rw [h.1,hd] at this
  cases this
 | x::a,y::b,X,Y,c,d,ha,hb,hc,hd,h=>by
  simp only [List.cons_append,List.cons.injEq] at h
  obtain ⟨rfl,h2⟩:=h
  obtain ⟨rfl,h3⟩:=letters_pre (fun z hz=>ha z (by simp [hz])) (fun z hz=>hb z (by simp [hz])) hc hd h2
  exact ⟨rfl,h3⟩
theorem not_letter61:letterB 61=false:=by decide
section
variable {T:List UInt8} {out:List Lab} {q j:Nat} {c:UInt8} {X:List UInt8}
theorem St2.scan (h:St2 T out q) (hall:∀ x∈(T.drop q++[125]).take j,letterB x=true) (hj:(T.drop q++[125]).drop j=c::X) (hc:letterB c=false) (l:List Lab) (hl:rightB l=true) (hb:bodyT l=T) :
  ∃ x r,l=out++x::r∧x.1.data.toList=(T.drop q++[125]).take j∧c::X=61::34::(valT x.2.data.toList++34::(tailT r++[125])):=by
 obtain ⟨x,r,rfl,h1⟩:=h.comp l hl hb
 have hnm:nameB x.1=true:=right_name hl x (by simp)
 have e:(T.drop q++[125]).take j++c::X=x.1.data.toList++61::(34::(valT x.2.data.toList++34::(tailT r++[125]))):=by
  rw [← hj,List.take_append_drop,h1,labT_split]
  simp
 obtain ⟨e1,e2⟩:=letters_pre hall (fun z hz=>(name_no61 hnm z hz).2) hc not_letter61 e
 exact ⟨x,r,rfl,e1.symm,e2⟩
theorem St2.scan_short (h:St2 T out q) (hall:∀ x∈(T.drop q++[125]).take j,letterB x=true) (hj:(T.drop q++[125]).drop j=c::X) (hc:letterB c=false) (hs:X.length<2):NoSet T:=fun l hl hb=>by
 obtain ⟨x,r,_,_,e⟩:=h.scan hall hj hc l hl hb
 simp only [List.cons.injEq] at e
 rw [e.2] at hs
 simp at hs
 omega
theorem St2.scan_61 (h:St2 T out q) (hall:∀ x∈(T.drop q++[125]).take j,letterB x=true) (hj:(T.drop q++[125]).drop j=c::X) (hc:letterB c=false) (h61:c≠61):NoSet T:=fun l hl hb=>by
 obtain ⟨x,r,_,_,e⟩:=h.scan hall hj hc l hl hb
 simp only [List.cons.injEq] at e
 exact h61 e.1
theorem St2.scan_34 (h:St2 T out q) (hall:∀ x∈(T.drop q++[125]).take j,letterB x=true) {d:UInt8} (hj:(T.drop q++[125]).drop j=61::d::X) (h34:d≠34):NoSet T:=fun l hl hb=>by
 obtain ⟨x,r,_,_,e⟩:=h.scan hall hj not_letter61 l hl hb
 simp only [List.cons.injEq,true_and] at e
 exact h34 e.1
theorem St2.scan_val (h:St2 T out q) (hall:∀ x∈(T.drop q++[125]).take j,letterB x=true) (hj:(T.drop q++[125]).drop j=61::34::X) (hv:∀ v r,X≠valT v++34::r):NoSet T:=fun l hl hb=>by
 obtain ⟨x,r,_,_,e⟩:=h.scan hall hj not_letter61 l hl hb
 simp only [List.cons.injEq,true_and] at e
 exact hv _ _ e
theorem St2.scan_label (h:St2 T out q) (hall:∀ x∈(T.drop q++[125]).take j,letterB x=true) (hj:(T.drop q++[125]).drop j=61::34::(T.drop (q+j+2)++[125])) (hjl:q+j+2≤T.length)
  {n v:ByteArray} (hn:n.data.toList=(T.drop q++[125]).take j) {q2:Nat} (hq2:q2=q+j+2+(valT v.data.toList).length+1) (hle:q2≤T.length) (hv:T.drop (q+j+2)++[125]=valT v.data.toList++34::(T.drop q2++[125])):St T (out++[(n,v)]) q2:=by
 have hlen:j≤(T.drop q).length:=by rw [List.length_drop];omega
 rw [List.take_append_of_le_length hlen] at hall hn
 rw [List.drop_append_of_le_length hlen] at hj
 have hj':(T.drop q).drop j=61::34::T.drop (q+j+2):=by
  have:(T.drop q).drop j++[125]=(61::34::T.drop (q+j+2))++[125]:=by rw [hj];rfl
  exact List.append_cancel_right this
 have hv':T.drop (q+j+2)=valT v.data.toList++34::T.drop q2:=by
  have:T.drop (q+j+2)++[125]=(valT v.data.toList++34::T.drop q2)++[125]:=by rw [hv];simp
  exact List.append_cancel_right this
 rw [hq2] at hv' ⊢
 refine h.label (i:=j) ?_ (fun a r e=>?_) (by rw [List.length_take];omega) hn hv'
 ·conv=>lhs;rw [← List.take_append_drop j (T.drop q),hj']
 ·rcases Nat.lt_or_ge a.length j with h1|h1
  ·exfalso
   have hm:(61:UInt8)∈(T.drop q).take j:=by
    rw [List.mem_take_iff_getElem]
    refine ⟨a.length,by rw [e];simp;omega,?_⟩
    simp only [e]
    simp
   have:=hall _ hm
   rw [not_letter61] at this
   cases this
  ·exact h1
theorem St.brk (h:St T out q) (ho:out≠[]) (hq:T.drop q++[125]=c::X) (hc:c≠44) (hne:q≠T.length):NoSet T:=by
 have hlt:q<T.length:=by have:=h.le;omega
 rw [List.drop_eq_getElem_cons hlt] at hq
 simp only [List.cons_append,List.cons.injEq] at hq
 exact h.nocomma ho (List.drop_eq_getElem_cons hlt) (by rw [hq.1];exact hc)
end
theorem own_apart {w w':World} {g base:Nat} {e:TypeId} {size n:Nat} {v:Value} {xs:List Value} (h:w.ownsRow base e size v n xs) (ho:Only g w w') (hg:v.ownBlock≠some g):w'.ownsRow base e size v n xs :=
 h.kept ho (by
  rcases hv:v.ownBlock with _|k
  ·exact .inl rfl
  ·right
   intro e'
   rw [hv,e'] at hg
   exact hg rfl)
theorem own_new {w:World} {base:Nat} {e:TypeId} {size n:Nat} {v:Value} {xs:List Value} (h:w.ownsRow base e size v n xs):v.ownBlock≠some w.heap.size:=fun hv=>by
 have:=(h.lt _ hv).2
 omega
theorem ext_next {s:ByteArray} {a b:Nat} (hab:a≤b) (hb:b<s.size):s.extract a b++s.extract b (b+1)=s.extract a (b+1):=by
 rw [ByteArray.extract_append_extract,Nat.min_eq_left hab,Nat.max_eq_right (by omega)]
theorem ext_none (s:ByteArray) (a:Nat):s.extract a a=⟨#[]⟩:=bytes_ext (by rw [ext_list,Nat.sub_self,List.take_zero])
theorem par_nil:ParP [123,125] []:=⟨by decide +kernel,by decide +kernel⟩
theorem brace_list:(⟨#[123,125]⟩:ByteArray).toList=[123,125]:=by decide +kernel
theorem str_eq (s t:ByteArray):(s.toList == t.toList)=true→s=t:=fun h=>by
 rw [bytes_eqd,decide_eq_true_iff] at h
 exact h
set_option maxRecDepth 100000 in
set_option maxHeartbeats 6400000 in
theorem parseR_calls (s:ByteArray) (w:World) (hs:s.size≤140737488351232) :
  Calls Tryz.prog 74 #[.string s] w (ParRet w s.data.toList (.bool true) (.bool false)):=by
 have HL:Hid (s.data.toList.length=s.size):=Jh (by rw [Array.length_toList];rfl)
 have hbw:Below w.heap.size w (w.alloc (.cells #[] 172)):=(Below.refl _ _).alloc (Nat.le_refl _) _
 by_cases h2:s.size<2
 ·have HN:=Jh (not_par_short (S:=s.data.toList) (by rw [HL.out];exact h2))
  go_enter Tryz.func74,Tryz.ntmps74
  go_wp2
  go_ret2
  exact .inr ⟨rfl,HN.out,hbw⟩
 have h2':2≤s.size:=by omega
 have j0:0<s.size:=by omega
 have j1:s.size-1<s.size:=by omega
 have c0:=at8_eq j0
 have c1:=at8_eq j1
 have e1:((s.size:Int)-1).toNat=s.size-1:=by omega
 by_cases h0:((s[0].toNat:Int) == 123)=true
 case neg =>
  have h0':((s[0].toNat:Int) != 123)=true:=by simpa using h0
  have HN:=Jh (not_par_head (S:=s.data.toList) (drop8 j0) (fun e=>h0 (by rw [c0,e];rfl)))
  clear h0 c0 c1
  go_enter Tryz.func74,Tryz.ntmps74
  go_wp2
  go_ret2
  exact .inr ⟨rfl,HN.out,hbw⟩
 have h0':((s[0].toNat:Int) != 123)=false:=by simpa using h0
 have g0:at8 s 0=123:=by
  rw [← c0]
  rw [beq_iff_eq] at h0
  exact UInt8.toNat_inj.1 (by show s[0].toNat=123;omega)
 by_cases h1:((s[s.size-1].toNat:Int) == 125)=true
 case neg =>
  have h1':((s[s.size-1].toNat:Int) != 125)=true:=by simpa using h1
  have HN:=Jh (not_par_last (S:=s.data.toList) (k:=s.size-1) (by rw [HL.out];omega) (at8_get j1) (fun e=>h1 (by rw [c1,e];rfl)))
  clear h1 h0 g0 c0 c1
  go_enter Tryz.func74,Tryz.ntmps74
  go_wp2
  go_ret2
  exact .inr ⟨rfl,HN.out,hbw⟩
 have h1':((s[s.size-1].toNat:Int) != 125)=false:=by simpa using h1
 have g1:at8 s (s.size-1)=125:=by
  rw [← c1]
  rw [beq_iff_eq] at h1
  exact UInt8.toNat_inj.1 (by show s[s.size-1].toNat=125;omega)
 have HS:=Jh (mid_list h2' g0 g1)
 have HG1:=Jh g1
 clear h0 h1 g0 g1 c0 c1
 generalize hT:(s.extract 1 (s.size-1)).data.toList=T at *
 have hTl:T.length=s.size-2:=by rw [← hT,Array.length_toList];show (s.extract 1 (s.size-1)).size=_;rw [ByteArray.size_extract];omega
 have HTl:=Jh hTl
 clear hT hTl
 have Hno:Hid (NoSet T→∀ l,¬ ParP s.data.toList l):=Jh fun h=>noSet_par h HS.out
 by_cases hq:(s.toList == [123,125])=true
 ·have HE:Hid (s.data.toList=[123,125]):=Jh (by rw [← brace_list] at hq;rw [str_eq _ _ hq])
  go_enter Tryz.func74,Tryz.ntmps74
  go_wp2
  go_ret2
  exact .inl ⟨[],_,_,rfl,by rw [HE.out];exact par_nil,Labs.nil_,hbw⟩
 have hq':(s.toList == [123,125])=false:=by simpa using hq
 have Hpos:Hid (0<T.length):=Jh (by
  rcases Nat.eq_zero_or_pos T.length with h|h
  ·exfalso
   refine hq ?_
   rw [← brace_list,bytes_eqd,decide_eq_true_iff]
   refine bytes_ext ?_
   rw [HS.out,List.eq_nil_of_length_eq_zero h]
   rfl
  ·exact h)
 clear hq
 go_enter Tryz.func74,Tryz.ntmps74
 go_wp2
 go_loopw [4,5] (fun o a wr=>∃ (p q:Nat) (out:List Lab) (A:Option Addr) (co:Nat),o=.slice A out.length co∧a=.int .i64 (p:Int)∧Hid (p=1+q)∧p+1≤s.size∧out.length≤5∧Hid (St2 T out q)∧Hid (Fit out)∧wr.ownsRow w.heap.size 172 2 (.slice A out.length co) out.length (labCells out)∧Below w.heap.size w wr) (fun _ a _=>s.size-(intOf a).toNat)
 case atStart=>exact ⟨1,0,[],_,_,rfl,rfl,Jh rfl,by omega,by simp,Jh (St.more0 (St.start _) Hpos.out),Jh (fun x hx=>by cases hx),World.ownsRow_made w #[] 0 (Nat.le_refl _) (Nat.zero_le _) rfl,hbw⟩
 case round =>
  obtain ⟨p,q,out,A,co,rfl,rfl,Hpq,hp,ho5,HSt,HFit,hown,hbel⟩:=hrel
  have hsz:=hbel.size
  by_cases h5:out.length=5
  ·have HN:=Jh (Hno.out (HSt.out.many (by omega)))
   have hlab:Labs wr wr.heap.size A out:=Reads.of_own hown
   have hRC:=rightR_calls wr (c:=co) hlab HFit.out (by omega)
   have hr:rightB out=false:=rightB_no fun h=>by have:=h.1;omega
   rw [hr] at hRC
   have HRC:=Jh hRC
   have i5:¬ (out.length:Int)<5:=by omega
   clear hRC hr h5
   by_cases hend:p+1=s.size
   ·have he1:((p:Int) != (s.size:Int)-1)=false:=nef (by omega)
    have hp1:p<s.size:=by omega
    have hc125:((s[p].toNat:Int) != 125)=false:=by
     have h8:=HG1.out
     rw [show s.size-1=p by omega,← at8_eq hp1] at h8
     rw [h8];rfl
    clear hend
    go_wp2_with fail
    refine HRC.out.mono ?_
    rintro e w4 ⟨rfl,hb4⟩
    go_wp2
    go_ret2
    exact .inr ⟨rfl,HN.out,hbel.trans (hb4.mono hsz)⟩
   ·have he1:((p:Int) != (s.size:Int)-1)=true:=net (by omega)
    clear hend
    go_wp2
    go_ret2
    exact .inr ⟨rfl,HN.out,hbel⟩
  ·have i5:(out.length:Int)<5:=by omega
   have hne:=own_new hown
   have hown1:=hown.alloc (.cells #[.string ⟨#[]⟩,.string ⟨#[]⟩] 172)
   have hx0:=Blk.new wr 172 #[.string ⟨#[]⟩,.string ⟨#[]⟩]
   have hb0:Below w.heap.size w (wr.alloc (.cells #[.string ⟨#[]⟩,.string ⟨#[]⟩] 172)):=hbel.alloc hsz _
   go_wp2
   generalize wr.alloc (.cells #[.string ⟨#[]⟩,.string ⟨#[]⟩] 172)=w1 at *
   generalize wr.heap.size=g at *
   have hgw:w.heap.size≤g:=hsz
   clear hown hbel
   have HqT:Hid (q≤T.length):=Jh HSt.out.le
   have HD:Hid (s.data.toList.drop p=T.drop q++[125]):=Jh (by rw [Hpq.out];exact drop_S HS.out HqT.out)
   go_loopw [5] (fun a wx=>∃ b:Nat,a=.int .i64 (b:Int)∧p≤b∧b+1≤s.size∧Hid (∀ x∈(s.data.toList.drop p).take (b-p),letterB x=true)∧Blk wx g 172 #[.string (s.extract p b),.string ⟨#[]⟩]∧Only g w1 wx) (fun a _=>s.size-(intOf a).toNat)
   case atStart=>exact ⟨p,rfl,Nat.le_refl _,hp,Jh (by rw [Nat.sub_self];simp),by rw [ext_none];exact hx0,Only.refl _ _⟩
   case round =>
    obtain ⟨b,rfl,hpb,hbs,Hlet,hx,honly⟩:=hrel
    have hbl:b<s.size:=by omega
    have Hdr:=Jh (drop8 hbl)
    have Hc:=Jh (at8_eq hbl)
    have HLC:=Jh (fun W=>letter_calls s[b] W)
    have Hsplit:Hid ((T.drop q++[125]).drop (b-p)=s[b]::s.data.toList.drop (b+1)):=Jh (by rw [← HD.out,List.drop_drop,show p+(b-p)=b by omega,Hdr.out,Hc.out])
    cases hlt:letterB s[b]
    ·rw [hlt] at HLC
     have Hall:Hid (∀ x∈(T.drop q++[125]).take (b-p),letterB x=true):=Jh (by rw [← HD.out];exact Hlet.out)
     have hbx:Below w.heap.size w wr:=hb0.trans (honly.below hgw hb0.size)
     have HF:=Jh hlt
     clear hlt
     by_cases h3:s.size<b+3
     ·have HN:=Jh (Hno.out (HSt.out.scan_short Hall.out Hsplit.out HF.out (by rw [List.length_drop,HL.out];omega)))
      have d3:decide ((s.size:Int)-(b:Int)<3)=true:=dct (by omega)
      have d4:(s.size:Int)-(b:Int)<3:=by omega
      go_wp2_with fail
      refine (HLC.out _).mono ?_
      rintro e w2 ⟨rfl,rfl⟩
      go_wp2
      go_ret2
      exact .inr ⟨rfl,HN.out,hbx⟩
     have d3:decide ((s.size:Int)-(b:Int)<3)=false:=dcf (by omega)
     have d4:(3:Int)≤(s.size:Int)-(b:Int):=by omega
     have e1:((b:Int)+1).toNat=b+1:=by omega
     have jb1:b+1<s.size:=by omega
     have ib1:(b:Int)+1<(s.size:Int):=by omega
     by_cases h61:((s[b].toNat:Int) == 61)=true
     case neg =>
      have h61':((s[b].toNat:Int) != 61)=true:=by simpa using h61
      have HN:=Jh (Hno.out (HSt.out.scan_61 Hall.out Hsplit.out HF.out (fun e=>h61 (by rw [e];rfl))))
      clear h61
      go_wp2_with fail
      refine (HLC.out _).mono ?_
      rintro e w2 ⟨rfl,rfl⟩
      go_wp2
      go_ret2
      exact .inr ⟨rfl,HN.out,hbx⟩
     have h61':((s[b].toNat:Int) != 61)=false:=by simpa using h61
     have hb61:s[b]=61:=by
      rw [beq_iff_eq] at h61
      exact UInt8.toNat_inj.1 (by show s[b].toNat=61;omega)
     have Hsp2:Hid ((T.drop q++[125]).drop (b-p)=61::s[b+1]::s.data.toList.drop (b+2)):=Jh (by rw [Hsplit.out,hb61,drop8 jb1,at8_eq jb1])
     clear h61 hb61
     by_cases h34:((s[b+1].toNat:Int) == 34)=true
     case neg =>
      have h34':((s[b+1].toNat:Int) != 34)=true:=by simpa using h34
      have HN:=Jh (Hno.out (HSt.out.scan_34 Hall.out Hsp2.out (fun e=>h34 (by rw [e];rfl))))
      clear h34
      go_wp2_with fail
      refine (HLC.out _).mono ?_
      rintro e w2 ⟨rfl,rfl⟩
      go_wp2
      go_ret2
      exact .inr ⟨rfl,HN.out,hbx⟩
     have h34':((s[b+1].toNat:Int) != 34)=false:=by simpa using h34
     have hb34:s[b+1]=34:=by
      rw [beq_iff_eq] at h34
      exact UInt8.toNat_inj.1 (by show s[b+1].toNat=34;omega)
     have Hsp3:Hid ((T.drop q++[125]).drop (b-p)=61::34::s.data.toList.drop (b+2)):=Jh (by rw [Hsp2.out,hb34])
     clear h34 hb34 Hsp2
     go_wp2_with fail
     refine (HLC.out _).mono ?_
     rintro e w2 ⟨rfl,rfl⟩
     go_wp2
     go_loopw [5] (fun a wx=>∃ (p2:Nat) (u:List UInt8),a=.int .i64 (p2:Int)∧p2≤s.size∧Hid (Upto s.data.toList (b+2) u p2)∧Blk wx g 172 #[.string (s.extract p b),.string ⟨u.toArray⟩]∧Only g w1 wx) (fun a _=>s.size-(intOf a).toNat)
     case atStart=>exact ⟨b+2,[],by go_num,by omega,Jh (Upto.start _ _),hx,honly⟩
     case round =>
      obtain ⟨p2,u,rfl,hp2,HU,hx2,honly2⟩:=hrel
      clear hx honly hbx
      have hbx:Below w.heap.size w wr:=hb0.trans (honly2.below hgw hb0.size)
      have s2:=hbx.size
      have hul:u.length≤s.size:=by have hug:=HU.out.2;have hvg:=valT_ge u;omega
      by_cases hlt2:p2<s.size
      ·have Hdr2:=Jh (drop8 hlt2)
       have Hc2:=Jh (at8_eq hlt2)
       by_cases hq34:((s[p2].toNat:Int) == 34)=true
       ·have hq34':((s[p2].toNat:Int) != 34)=false:=by simpa using hq34
        have hd34:s.data.toList.drop p2=34::s.data.toList.drop (p2+1):=by
         rw [Hdr2.out,← Hc2.out]
         congr 1
         rw [beq_iff_eq] at hq34
         exact UInt8.toNat_inj.1 (by show s[p2].toNat=34;omega)
        have hlast:p2+1≠s.size:=fun e=>by
         have h8:=HG1.out
         rw [← e,show p2+1-1=p2 by omega,← Hc2.out] at h8
         rw [h8] at hq34
         exact absurd hq34 (by decide)
        have hl2:p2+1<s.size:=by omega
        have hpq:p=1+q:=Hpq.out
        have hTl:T.length=s.size-2:=HTl.out
        have hug:=HU.out.2
        have HSt2:Hid (St T (out++[(s.extract p b,⟨u.toArray⟩)]) p2):=Jh (by
         refine HSt.out.scan_label Hall.out (j:=b-p) (n:=s.extract p b) (v:=⟨u.toArray⟩) (q2:=p2) ?_ (by omega) ?_ ?_ (by omega) ?_
         ·rw [Hsp3.out,← drop_S HS.out (by omega),show 1+(q+(b-p)+2)=b+2 by omega]
         ·rw [ext_list,HD.out]
         ·show p2=q+(b-p)+2+(valT u).length+1
          omega
         ·rw [← drop_S HS.out (by omega),show 1+(q+(b-p)+2)=b+2 by omega,← drop_S HS.out (by omega),show 1+p2=p2+1 by omega]
          exact HU.out.done hd34)
        have hb2:b+2≤p2:=by omega
        clear hug hpq hTl hd34 hq34 hlast
        have hown2:=own_apart hown1 honly2 hne
        have y0:=hx2.cell 0
        have y1:=hx2.cell 1
        simp only [Ja,Jb,Jc] at y0 y1
        have hns:(s.extract p b).size≤140737488351232:=by rw [ByteArray.size_extract];omega
        have hvs:(⟨u.toArray⟩:ByteArray).size≤140737488351232:=by rw [mk_size];omega
        generalize (⟨u.toArray⟩:ByteArray)=vb at *
        have Hfit2:Hid (Fit (out++[(s.extract p b,vb)])):=Jh (fun y hy=>by
         rcases List.mem_append.1 hy with hy|hy
         ·exact HFit.out y hy
         ·simp at hy
          subst hy
          exact ⟨by simp only;omega,by simp only;omega⟩)
        have hrd:Reads (wr.alloc (.cells #[.string (s.extract p b),.string vb] 172)) (wr.heap.size+1) 2 (some ⟨wr.heap.size,0,none⟩) 1 (labCells [(s.extract p b,vb)]):=Reads.made (n:=1) (size:=2) wr #[.string (s.extract p b),.string vb] 172 rfl
        clear hns hvs
        go_wp2_with (at_builtin;go_must (refine wpList_append_sl _ rfl (.tmp 102) (.tmp 104) _ rfl w.heap.size 172 _ 2 32 Tryz.underlying138 Tryz.infoLab rfl (by omega) _ _ _ rfl (hown2.alloc _) (wr.heap.size+1) _ 1 1 (labCells [(s.extract p b,vb)]) rfl hrd (labCells_one _) (by unfold maxLen;omega) (by omega) (by simp;omega) ?_))
        intro A2' c2' w3 hc1 hc2 hrd2 hbel2 hown3' _ _
        have hown3:w3.ownsRow w.heap.size 172 2 (.slice A2' (out++[(s.extract p b,vb)]).length c2') (out++[(s.extract p b,vb)]).length (labCells (out++[(s.extract p b,vb)])):=by rw [labCells_app,List.length_append];exact hown3'
        have hbe:Below w.heap.size w w3:=(hbx.alloc (by omega) _).trans hbel2
        have s3:=hbe.size
        clear hown3' hown2 hown1 hrd2 hrd y0 y1
        have e1:((p2:Int)+1).toNat=p2+1:=by omega
        have i1:(p2:Int)+1<(s.size:Int):=by omega
        have Hp1:Hid (T.drop p2++[125]=s[p2+1]::s.data.toList.drop (p2+2)):=Jh (by
         rw [← drop_S HS.out HSt2.out.le,show 1+p2=p2+1 by omega,drop8 hl2,at8_eq hl2])
        by_cases h44:((s[p2+1].toNat:Int) == 44)=true
        ·have h44':((s[p2+1].toNat:Int) != 44)=false:=by simpa using h44
         have hc44:s[p2+1]=44:=by
          rw [beq_iff_eq] at h44
          exact UInt8.toNat_inj.1 (by show s[p2+1].toNat=44;omega)
         have hlt3:p2<T.length:=by
          rcases Nat.lt_or_ge p2 T.length with h|h
          ·exact h
          ·exfalso
           have h9:=Hp1.out
           rw [List.drop_eq_nil_of_le h,hc44] at h9
           simp at h9
         have HSt3:=Jh (HSt2.out.comma (by simp) (X:=T.drop (p2+1)) (by
          have h9:=Hp1.out
          rw [List.drop_eq_getElem_cons hlt3,hc44] at h9
          simp only [List.cons_append,List.cons.injEq] at h9
          rw [List.drop_eq_getElem_cons hlt3,h9.1]))
         have hsz3:p2+3≤s.size:=by have:=HTl.out;omega
         clear h44 hc44 hlt3
         go_wp2
         go_roundw
         case rel=>exact ⟨p2+2,p2+1,out++[(s.extract p b,vb)],A2',c2',by simp,by go_num,Jh (by omega),by omega,by simp;omega,HSt3,Hfit2,hown3,hbe⟩
         case measure=>simp [intOf];omega
        ·have h44':((s[p2+1].toNat:Int) != 44)=true:=by simpa using h44
         have hne44:s[p2+1]≠44:=fun e=>h44 (by rw [e];rfl)
         by_cases hend:p2+2=s.size
         ·have hT2:p2=T.length:=by have:=HTl.out;omega
          have hSf:St T (out++[(s.extract p b,vb)]) T.length:=by rw [← hT2];exact HSt2.out
          have he1:((p2:Int)+1 != (s.size:Int)-1)=false:=nef (by omega)
          have hc125:((s[p2+1].toNat:Int) != 125)=false:=by
           have h8:=HG1.out
           rw [show s.size-1=p2+1 by omega,← at8_eq hl2] at h8
           rw [h8];rfl
          have hlab:Labs w3 w3.heap.size A2' (out++[(s.extract p b,vb)]):=Reads.of_own hown3
          have hRC:=rightR_calls w3 (c:=c2') hlab Hfit2.out (by simp;omega)
          have hlen:(out++[(s.extract p b,vb)]).length=out.length+1:=by simp
          clear h44 hne44
          cases hr:rightB (out++[(s.extract p b,vb)])
          ·have HN:=Jh (Hno.out (hSf.finno hr))
           rw [hr,hlen] at hRC
           have HRC:=Jh hRC
           clear hRC hr hT2 hend hlen
           go_wp2_with fail
           refine HRC.out.mono ?_
           rintro e w4 ⟨rfl,hb4⟩
           go_wp2
           go_ret2
           exact .inr ⟨rfl,HN.out,hbe.trans (hb4.mono s3)⟩
          ·have HP:=Jh (par_of HS.out hr hSf.fin)
           rw [hr,hlen] at hRC
           have HRC:=Jh hRC
           have HLen:=Jh hlen
           clear hRC hr hT2 hend hlen
           go_wp2_with fail
           refine HRC.out.mono ?_
           rintro e w4 ⟨rfl,hb4⟩
           go_wp2
           go_ret2
           exact .inl ⟨out++[(s.extract p b,vb)],A2',c2',by rw [HLen.out];rfl,HP.out,(hlab.below hb4).more hb4.size,hbe.trans (hb4.mono s3)⟩
         ·have HN:=Jh (Hno.out (HSt2.out.brk (by simp) Hp1.out hne44 (by have:=HTl.out;omega)))
          have he1:((p2:Int)+1 != (s.size:Int)-1)=true:=net (by omega)
          clear h44 hne44
          go_wp2
          go_ret2
          exact .inr ⟨rfl,HN.out,hbe⟩
       ·have hq34':((s[p2].toNat:Int) != 34)=true:=by simpa using hq34
        have Hn34:Hid (∀ r,s.data.toList.drop p2≠34::r):=Jh (fun r hr=>by
         rw [Hdr2.out,← Hc2.out] at hr
         simp only [List.cons.injEq] at hr
         rw [hr.1] at hq34
         exact hq34 rfl)
        have HRD:=Jh (fun W=>read_calls s p2 W hlt2 (by omega))
        have y1:=hx2.cell 1
        simp only [Ja,Jb,Jc] at y1
        clear hq34
        go_wp2_with fail
        refine (HRD.out _).mono ?_
        rintro e w3 ⟨hret,hb3⟩
        have s3:=hb3.size
        rcases hret with ⟨ch,rfl,hch⟩|⟨rfl,hno⟩
        ·have hlc:(escB ch).length=1∨(escB ch).length=3:=by rw [escB_len13];split<;>simp
         have hrem:p2+(escB ch).length≤s.size:=by
          have:=congrArg List.length hch
          rw [List.length_append,List.length_drop,List.length_drop,HL.out] at this
          omega
         have Hup:=Jh (HU.out.next rfl hch)
         have hz:(((escB ch).length:Int) == 0)=false:=eqf (by omega)
         have hm1:1≤(escB ch).length:=by omega
         generalize (escB ch).length=m at *
         have x3:=hx2.below hb3 hx2.lt
         have y1':=x3.cell 1
         have f1':=x3.frozen 1
         simp only [Ja,Jb,Jc] at y1'
         have hcv:=conv_new w3 [ch] #[.int .u8 (ch.toNat:Int)] 1 1 rfl rfl
         have happ:(⟨u.toArray⟩:ByteArray)++(⟨[ch].toArray⟩:ByteArray)=⟨(u++[ch]).toArray⟩:=app_str _ _
         have hadd:∀ W,(Op.stringOp .add (⟨u.toArray⟩:ByteArray) (⟨[ch].toArray⟩:ByteArray)).run Tryz.prog W=.ok (.string ⟨(u++[ch]).toArray⟩) W:=fun W=>by
          rw [run_string_add_sum W _ _ (by rw [mk_size,mk_size];simp;omega),happ]
         have x3a:=x3.alloc (.cells #[.int .u8 (ch.toNat:Int)] 5)
         have hg3:=x3.lt
         have y1a:=x3a.cell 1
         have f1a:=x3a.frozen 1
         simp only [Ja,Jb,Jc] at y1a
         have Hset:Hid (Blk _ g 172 #[.string (s.extract p b),.string ⟨(u++[ch]).toArray⟩]):=Jh ((x3.set_ 1 (.string ⟨(u++[ch]).toArray⟩)).alloc (.cells #[.int .u8 (ch.toNat:Int)] 5))
         have ho3:Only g w1 w3:=honly2.trans (Only.of_below hb3)
         clear hch happ y1 hlc
         generalize (⟨u.toArray⟩:ByteArray)=bu at *
         generalize (⟨[ch].toArray⟩:ByteArray)=bc at *
         go_wp2
         go_roundw
         case rel=>exact ⟨p2+m,u++[ch],by go_num,hrem,Hup,Hset.out,(ho3.setCell (.inl rfl) _).alloc _⟩
         case measure=>simp [intOf];omega
        ·have HN:=Jh (Hno.out (HSt.out.scan_val Hall.out Hsp3.out (HU.out.none hno Hn34.out)))
         clear hno
         go_wp2
         go_ret2
         exact .inr ⟨rfl,HN.out,hbx.trans (hb3.mono s2)⟩
      ·obtain rfl:p2=s.size:=by omega
       have HN:=Jh (Hno.out (HSt.out.scan_val Hall.out Hsp3.out (by
        have e:s.data.toList.drop s.size=[]:=List.drop_eq_nil_of_le (by rw [HL.out];omega)
        exact HU.out.none (by rw [e];exact noRd_nil) (fun r h=>by rw [e] at h;cases h))))
       have hown2:=own_apart hown1 honly2 hne
       have y0:=hx2.cell 0
       have y1:=hx2.cell 1
       simp only [Ja,Jb,Jc] at y0 y1
       have hns:(s.extract p b).size≤140737488351232:=by rw [ByteArray.size_extract];omega
       have hvs:(⟨u.toArray⟩:ByteArray).size≤140737488351232:=by rw [mk_size];omega
       generalize (⟨u.toArray⟩:ByteArray)=vb at *
       have Hfit2:Hid (Fit (out++[(s.extract p b,vb)])):=Jh (fun y hy=>by
        rcases List.mem_append.1 hy with hy|hy
        ·exact HFit.out y hy
        ·simp at hy
         subst hy
         exact ⟨by simp only;omega,by simp only;omega⟩)
       have hrd:Reads (wr.alloc (.cells #[.string (s.extract p b),.string vb] 172)) (wr.heap.size+1) 2 (some ⟨wr.heap.size,0,none⟩) 1 (labCells [(s.extract p b,vb)]):=Reads.made (n:=1) (size:=2) wr #[.string (s.extract p b),.string vb] 172 rfl
       clear hns hvs
       go_wp2_with (at_builtin;go_must (refine wpList_append_sl _ rfl (.tmp 102) (.tmp 104) _ rfl w.heap.size 172 _ 2 32 Tryz.underlying138 Tryz.infoLab rfl (by omega) _ _ _ rfl (hown2.alloc _) (wr.heap.size+1) _ 1 1 (labCells [(s.extract p b,vb)]) rfl hrd (labCells_one _) (by unfold maxLen;omega) (by omega) (by simp;omega) ?_))
       intro A2' c2' w3 hc1 hc2 hrd2 hbel2 hown3' _ _
       have hown3:w3.ownsRow w.heap.size 172 2 (.slice A2' (out++[(s.extract p b,vb)]).length c2') (out++[(s.extract p b,vb)]).length (labCells (out++[(s.extract p b,vb)])):=by rw [labCells_app,List.length_append];exact hown3'
       have hbe:Below w.heap.size w w3:=(hbx.alloc (by omega) _).trans hbel2
       have s3:=hbe.size
       clear hown3' hown2 hown1 hrd2 hrd y0 y1
       go_wp2
       go_ret2
       exact .inr ⟨rfl,HN.out,hbe⟩
    ·rw [hlt] at HLC
     have hne1:b+1≠s.size:=fun e=>by
      have h8:=HG1.out
      rw [← e,show b+1-1=b by omega,← Hc.out] at h8
      rw [h8] at hlt
      exact absurd hlt (by decide)
     have Hlet2:Hid (∀ x∈(s.data.toList.drop p).take (b+1-p),letterB x=true):=Jh (fun x hx=>by
      rw [show b+1-p=(b-p)+1 by omega,List.take_add_one] at hx
      rcases List.mem_append.1 hx with hx|hx
      ·exact Hlet.out x hx
      ·rw [List.getElem?_drop,show p+(b-p)=b by omega,at8_get hbl] at hx
       simp at hx
       rw [hx,← Hc.out];exact hlt)
     have Hnx:=Jh (ext_next (s:=s) hpb hbl)
     clear hlt
     have y0:=hx.cell 0
     have f0:=hx.frozen 0
     simp only [Ja,Jb] at y0
     have e1:((b:Int)+1).toNat=b+1:=by omega
     have i1:(b:Int)+1≤(s.size:Int):=by omega
     have i2:(b:Int)≤(b:Int)+1:=by omega
     have i3:(0:Int)≤(b:Int):=by omega
     have k1:IntKind.i64.wrap ((b:Int)+1)=(b:Int)+1:=IntWalk.i64_in _ (by omega)
     have z1:(s.extract p b).size≤140737488351232:=by rw [ByteArray.size_extract];omega
     have z2:(s.extract b (b+1)).size≤140737488351232:=by rw [ByteArray.size_extract];omega
     have hadd:∀ W,(Op.stringOp .add (s.extract p b) (s.extract b (b+1))).run Tryz.prog W=.ok (.string (s.extract p (b+1))) W:=fun W=>by rw [run_string_add_sum W _ _ (by omega),Hnx.out]
     have Hset:=Jh (hx.set_ 0 (.string (s.extract p (b+1))))
     go_wp2_with fail
     refine (HLC.out _).mono ?_
     rintro e w2 ⟨rfl,rfl⟩
     go_wp2_with fail
     go_still_tail 8,(by kernel_rfl)
     go_wp2
     go_roundw
     case rel=>exact ⟨b+1,by go_num,by omega,by omega,Hlet2,Hset.out,(honly.drewN _).setCell (.inl rfl) _⟩
     case measure=>simp [intOf];omega
end Go.Proofs.YtibnehaibgbliaaGreat.Lb
namespace Go.Proofs.YtibnehaibgbliaaGreat.Mf
open Go.RowKit Go.Proofs.YtibnehaibgbliaaGreat
theorem keyB_yes {s:ByteArray} (h:KeyP s):keyB s=true:=decide_eq_true h
theorem keyB_no {s:ByteArray} (h:¬ KeyP s):keyB s=false:=decide_eq_false h
theorem key_step {s:ByteArray} {k:Nat} {c:UInt8} (h:∀ i,i<k→okK (Lb.at8 s i)) (hc:c=Lb.at8 s k) (ho:okK c):∀ i,i<k+1→okK (Lb.at8 s i):=by
 intro i hi
 rcases Nat.lt_or_ge i k with h1|h1
 ·exact h i h1
 ·obtain rfl:i=k:=by omega
  rw [← hc];exact ho
theorem key_bad {s:ByteArray} {k:Nat} {c:UInt8} (hk:k<s.size) (hc:c=Lb.at8 s k) (ho:¬ okK c):keyB s=false:=keyB_no fun h=>ho (by rw [hc];exact h.2.2 k hk)
set_option maxRecDepth 100000 in
set_option maxHeartbeats 800000 in
theorem key_calls (s:ByteArray) (w:World) (hs:s.size≤140737488351232) :
  Calls Tryz.prog 119 #[.string s] w fun e w'=>e=.returned (.bool (keyB s))∧w'=w:=by
 go_enter Tryz.func119,Tryz.ntmps119
 go_wp2
 go_loop [6] (fun i=>∃ k:Nat,k≤s.size∧i=.int .i64 (k:Int)∧Hid (∀ i,i<k→okK (Lb.at8 s i))) (fun i=>s.size-(intOf i).toNat)
 case atStart=>exact ⟨0,Nat.zero_le _,rfl,Jh fun i hi=>absurd hi (by omega)⟩
 case round =>
  obtain ⟨k,hk,rfl,hall⟩:=hrel
  by_cases hlt:k<s.size
  ·have hc:=Jh (Lb.at8_eq hlt)
   obtain ⟨c,hcd⟩:∃ c,c=s[k]:=⟨_,rfl⟩
   rw [← hcd] at hc
   have hcase:(okK c∧decide ((c.toNat:Int)<33)=false∧decide ((126:Int)<(c.toNat:Int))=false)∨(¬ okK c∧decide ((c.toNat:Int)<33)=true)∨(¬ okK c∧decide ((c.toNat:Int)<33)=false∧decide ((126:Int)<(c.toNat:Int))=true):=by
    unfold okK
    simp only [decide_eq_true_eq,decide_eq_false_iff_not]
    omega
   subst hcd
   rcases hcase with ⟨ho,d1,d2⟩|⟨ho,d1⟩|⟨ho,d1,d2⟩
   ·have Hn:=Jh (key_step hall.out hc.out ho)
    clear ho
    go_wp2
    go_round
    case rel=>exact ⟨k+1,by omega,by go_num,Hn⟩
    case measure=>simp [intOf];omega
   all_goals
    have Hn:=Jh (key_bad hlt hc.out ho)
    clear ho
    go_wp2
    go_ret
    exact ⟨by rw [Hn.out];rfl,rfl⟩
  ·obtain rfl:k=s.size:=by omega
   have hH:(1≤s.size∧s.size≤40∧keyB s=true)∨(¬ 1≤s.size∧keyB s=false)∨(1≤s.size∧¬ s.size≤40∧keyB s=false):=by
    by_cases h1:1≤s.size
    ·by_cases h2:s.size≤40
     ·exact .inl ⟨h1,h2,keyB_yes ⟨h1,h2,hall.out⟩⟩
     ·exact .inr (.inr ⟨h1,h2,keyB_no fun h=>h2 h.2.1⟩)
    ·exact .inr (.inl ⟨h1,keyB_no fun h=>h1 h.1⟩)
   rcases hH with ⟨h1,h2,h3⟩|⟨h1,h3⟩|⟨h1,h2,h3⟩
   all_goals
    have H3:=Jh h3
    clear h3
    try (have d8:decide ((s.size:Int)≤40)=true:=dct (by omega))
    try (have e8:decide ((s.size:Int)≤40)=false:=dcf (by omega))
    go_wp2
    go_ret
    exact ⟨by rw [H3.out];rfl,rfl⟩
set_option maxRecDepth 100000 in
set_option maxHeartbeats 800000 in
theorem keyR_calls (s:ByteArray) (w:World) (hs:s.size≤140737488351232) :
  Calls Tryz.prog 45 #[.string s] w fun e w'=>e=.returned (.bool (keyB s))∧w'=w:=by
 by_cases h1:s.size<1
 ·have H3:=Jh (keyB_no (s:=s) fun h=>by have:=h.1;omega)
  go_enter Tryz.func45,Tryz.ntmps45
  go_wp2
  go_ret
  exact ⟨by rw [H3.out];rfl,rfl⟩
 by_cases h2:40<s.size
 ·have H3:=Jh (keyB_no (s:=s) fun h=>by have:=h.2.1;omega)
  have d1:decide ((s.size:Int)<1)=false:=dcf (by omega)
  have d2:decide ((40:Int)<(s.size:Int))=true:=dct (by omega)
  go_enter Tryz.func45,Tryz.ntmps45
  go_wp2
  go_ret
  exact ⟨by rw [H3.out];rfl,rfl⟩
 have d1:decide ((s.size:Int)<1)=false:=dcf (by omega)
 have d2:decide ((40:Int)<(s.size:Int))=false:=dcf (by omega)
 go_enter Tryz.func45,Tryz.ntmps45
 go_wp2
 go_loop [3] (fun i=>∃ k:Nat,k≤s.size∧i=.int .i64 (k:Int)∧Hid (∀ i,i<k→okK (Lb.at8 s i))) (fun i=>s.size-(intOf i).toNat)
 case atStart=>exact ⟨0,Nat.zero_le _,rfl,Jh fun i hi=>absurd hi (by omega)⟩
 case round =>
  obtain ⟨k,hk,rfl,hall⟩:=hrel
  by_cases hlt:k<s.size
  ·have hc:=Jh (Lb.at8_eq hlt)
   obtain ⟨c,hcd⟩:∃ c,c=s[k]:=⟨_,rfl⟩
   rw [← hcd] at hc
   have hcase:(okK c∧decide ((c.toNat:Int)≤32)=false∧decide ((127:Int)≤(c.toNat:Int))=false)∨(¬ okK c∧decide ((c.toNat:Int)≤32)=true)∨(¬ okK c∧decide ((c.toNat:Int)≤32)=false∧decide ((127:Int)≤(c.toNat:Int))=true):=by
    unfold okK
    simp only [decide_eq_true_eq,decide_eq_false_iff_not]
    omega
   subst hcd
   rcases hcase with ⟨ho,d1,d2⟩|⟨ho,d1⟩|⟨ho,d1,d2⟩
   ·have Hn:=Jh (key_step hall.out hc.out ho)
    clear ho
    go_wp2
    go_round
    case rel=>exact ⟨k+1,by omega,by go_num,Hn⟩
    case measure=>simp [intOf];omega
   all_goals
    have Hn:=Jh (key_bad hlt hc.out ho)
    clear ho
    go_wp2
    go_ret
    exact ⟨by rw [Hn.out];rfl,rfl⟩
  ·obtain rfl:k=s.size:=by omega
   have H3:=Jh (keyB_yes ⟨by omega,by omega,hall.out⟩)
   go_wp2
   go_ret
   exact ⟨by rw [H3.out];rfl,rfl⟩
theorem parB_iff {s:ByteArray}:parB s=true↔∃ l,Lb.ParP s.data.toList l:=by unfold parB;simp
theorem par_yes (s:ByteArray) (w:World) (hs:s.size≤100000) (hm:Sh w) (h:parB s=true) :
  Calls Tryz.prog 118 #[.string s] w fun e w'=>(∃ v,e=.returned (.tuple #[v,.int .i64 0]))∧Below w.heap.size w w':=by
 refine (Lb.parse_calls s w hs hm).mono ?_
 rintro e w' (⟨l,A,c,rfl,-,-,hb⟩|⟨-,hn,-⟩)
 ·exact ⟨⟨_,rfl⟩,hb⟩
 ·obtain ⟨l,hl⟩:=parB_iff.1 h
  exact absurd hl (hn l)
theorem par_no (s:ByteArray) (w:World) (hs:s.size≤100000) (hm:Sh w) (h:parB s=false) :
  Calls Tryz.prog 118 #[.string s] w fun e w'=>(∃ v,e=.returned (.tuple #[v,.int .i64 4]))∧Below w.heap.size w w':=by
 refine (Lb.parse_calls s w hs hm).mono ?_
 rintro e w' (⟨l,A,c,rfl,hp,-,hb⟩|⟨rfl,-,hb⟩)
 ·rw [parB_iff.2 ⟨l,hp⟩] at h;cases h
 ·exact ⟨⟨_,rfl⟩,hb⟩
theorem parR_calls (s:ByteArray) (w:World) (hs:s.size≤140737488351232) :
  Calls Tryz.prog 74 #[.string s] w fun e w'=>(∃ v,e=.returned (.tuple #[v,.bool (parB s)]))∧Below w.heap.size w w':=by
 refine (Lb.parseR_calls s w hs).mono ?_
 rintro e w' (⟨l,A,c,rfl,hp,-,hb⟩|⟨rfl,hn,hb⟩)
 ·exact ⟨⟨_,by rw [parB_iff.2 ⟨l,hp⟩]⟩,hb⟩
 ·have h:parB s=false:=by
   cases h:parB s
   ·rfl
   ·obtain ⟨l,hl⟩:=parB_iff.1 h
    exact absurd hl (hn l)
  exact ⟨⟨_,by rw [h]⟩,hb⟩
abbrev enV (x:En):Value:=.agg #[.string x.key,.int .i64 x.window,.string x.part,.int .i64 x.first,.int .i64 x.last,.int .i64 x.rows,.int .i64 x.size,.int .u32 x.sum,.int .i64 x.born]
set_option maxRecDepth 100000 in
set_option maxHeartbeats 3200000 in
theorem entry_calls (x:En) (w:World) (hx:x.Ok) (hp:x.part.size≤100000) (hm:Sh w):Calls Tryz.prog 89 #[enV x] w fun e w'=>e=.returned (.bool (enB x))∧Below w.heap.size w w':=by
 have HN:=Jh num_calls
 have HK:=Jh (fun W=>key_calls x.key W hx.key)
 have HB:=Jh ((Below.refl w.heap.size w).alloc (Nat.le_refl _) (.cells #[.string x.key,.int .i64 x.window,.string x.part,.int .i64 x.first,.int .i64 x.last,.int .i64 x.rows,.int .i64 x.size,.int .u32 x.sum,.int .i64 x.born] 85))
 have HM:=Jh (hm.below HB.out hm.lt)
 have HD:Hid (enB x=(parB x.part&&keyB x.key&&numB x.window 0&&decide (0≤x.first)&&decide (x.first≤x.last)&&decide (x.last<1099511627776)&&decide (1≤x.rows)&&decide (x.rows≤2048)&&decide (1≤x.size)&&decide (x.size≤262144)&&numB x.born 0)):=Jh rfl
 generalize enB x=out at *
 clear hm hx
 cases hpar:parB x.part
 ·have HP:=Jh (fun W (hW:Sh W)=>par_no x.part W hp hW hpar)
  have HV:Hid (out=false):=Jh (by rw [HD.out,hpar];simp)
  clear hpar HD
  go_enter Tryz.func89,Tryz.ntmps89
  go_wp2_with fail
  refine (HP.out _ HM.out).mono ?_
  rintro e w1 ⟨⟨v,rfl⟩,hb1⟩
  have hbk:Blk w1 w.heap.size 85 #[.string x.key,.int .i64 x.window,.string x.part,.int .i64 x.first,.int .i64 x.last,.int .i64 x.rows,.int .i64 x.size,.int .u32 x.sum,.int .i64 x.born]:=(Blk.new w 85 #[.string x.key,.int .i64 x.window,.string x.part,.int .i64 x.first,.int .i64 x.last,.int .i64 x.rows,.int .i64 x.size,.int .u32 x.sum,.int .i64 x.born]).below hb1 (by simp)
  obtain ⟨p0,p1,p2,p3,p4,p5,p6,p7,p8⟩:w1.cell? ⟨w.heap.size,0,none⟩=some (.string x.key)∧w1.cell? ⟨w.heap.size,1,none⟩=some (.int .i64 x.window)∧w1.cell? ⟨w.heap.size,2,none⟩=some (.string x.part)∧w1.cell? ⟨w.heap.size,3,none⟩=some (.int .i64 x.first)∧w1.cell? ⟨w.heap.size,4,none⟩=some (.int .i64 x.last)∧w1.cell? ⟨w.heap.size,5,none⟩=some (.int .i64 x.rows)∧w1.cell? ⟨w.heap.size,6,none⟩=some (.int .i64 x.size)∧w1.cell? ⟨w.heap.size,7,none⟩=some (.int .u32 x.sum)∧w1.cell? ⟨w.heap.size,8,none⟩=some (.int .i64 x.born):=⟨hbk.cell 0,hbk.cell 1,hbk.cell 2,hbk.cell 3,hbk.cell 4,hbk.cell 5,hbk.cell 6,hbk.cell 7,hbk.cell 8⟩
  have HB1:=Jh (HB.out.trans (hb1.mono (by simp)))
  clear hbk hb1
  by_cases e0:keyB x.key=true
  ·have te0:keyB x.key=true:=e0
   by_cases e1:numB x.window 0=true
   ·have te1:numB x.window 0=true:=e1
    go_wp2_with first|(go_at_call 87;refine (HN.out _ _ _).mono ?_;rintro e w2 ⟨rfl,rfl⟩)|(go_at_call 119;refine (HK.out _).mono ?_;rintro e w2 ⟨rfl,rfl⟩)
    go_ret
    exact ⟨by rw [HV.out];rfl,HB1.out⟩
   ·have te1:numB x.window 0=false:=by simpa using e1
    go_wp2_with first|(go_at_call 87;refine (HN.out _ _ _).mono ?_;rintro e w2 ⟨rfl,rfl⟩)|(go_at_call 119;refine (HK.out _).mono ?_;rintro e w2 ⟨rfl,rfl⟩)
    go_ret
    exact ⟨by rw [HV.out];rfl,HB1.out⟩
  ·have te0:keyB x.key=false:=by simpa using e0
   go_wp2_with first|(go_at_call 87;refine (HN.out _ _ _).mono ?_;rintro e w2 ⟨rfl,rfl⟩)|(go_at_call 119;refine (HK.out _).mono ?_;rintro e w2 ⟨rfl,rfl⟩)
   go_ret
   exact ⟨by rw [HV.out];rfl,HB1.out⟩
 ·have HP:=Jh (fun W (hW:Sh W)=>par_yes x.part W hp hW hpar)
  have HD2:Hid (out=(keyB x.key&&numB x.window 0&&decide (0≤x.first)&&decide (x.first≤x.last)&&decide (x.last<1099511627776)&&decide (1≤x.rows)&&decide (x.rows≤2048)&&decide (1≤x.size)&&decide (x.size≤262144)&&numB x.born 0)):=Jh (by rw [HD.out,hpar];rfl)
  clear hpar HD
  go_enter Tryz.func89,Tryz.ntmps89
  go_wp2_with fail
  refine (HP.out _ HM.out).mono ?_
  rintro e w1 ⟨⟨v,rfl⟩,hb1⟩
  have hbk:Blk w1 w.heap.size 85 #[.string x.key,.int .i64 x.window,.string x.part,.int .i64 x.first,.int .i64 x.last,.int .i64 x.rows,.int .i64 x.size,.int .u32 x.sum,.int .i64 x.born]:=(Blk.new w 85 #[.string x.key,.int .i64 x.window,.string x.part,.int .i64 x.first,.int .i64 x.last,.int .i64 x.rows,.int .i64 x.size,.int .u32 x.sum,.int .i64 x.born]).below hb1 (by simp)
  obtain ⟨p0,p1,p2,p3,p4,p5,p6,p7,p8⟩:w1.cell? ⟨w.heap.size,0,none⟩=some (.string x.key)∧w1.cell? ⟨w.heap.size,1,none⟩=some (.int .i64 x.window)∧w1.cell? ⟨w.heap.size,2,none⟩=some (.string x.part)∧w1.cell? ⟨w.heap.size,3,none⟩=some (.int .i64 x.first)∧w1.cell? ⟨w.heap.size,4,none⟩=some (.int .i64 x.last)∧w1.cell? ⟨w.heap.size,5,none⟩=some (.int .i64 x.rows)∧w1.cell? ⟨w.heap.size,6,none⟩=some (.int .i64 x.size)∧w1.cell? ⟨w.heap.size,7,none⟩=some (.int .u32 x.sum)∧w1.cell? ⟨w.heap.size,8,none⟩=some (.int .i64 x.born):=⟨hbk.cell 0,hbk.cell 1,hbk.cell 2,hbk.cell 3,hbk.cell 4,hbk.cell 5,hbk.cell 6,hbk.cell 7,hbk.cell 8⟩
  have HB1:=Jh (HB.out.trans (hb1.mono (by simp)))
  clear hbk hb1
  by_cases e0:keyB x.key=true
  ·have te0:keyB x.key=true:=e0
   by_cases e1:numB x.window 0=true
   ·have te1:numB x.window 0=true:=e1
    by_cases e2:0≤x.first
    ·have te2:decide (0≤x.first)=true:=dct e2
     by_cases e3:x.first≤x.last
     ·have te3:decide (x.first≤x.last)=true:=dct e3
      by_cases e4:x.last<1099511627776
      ·have te4:decide (x.last<1099511627776)=true:=dct e4
       by_cases e5:1≤x.rows
       ·have te5:decide (1≤x.rows)=true:=dct e5
        by_cases e6:x.rows≤2048
        ·have te6:decide (x.rows≤2048)=true:=dct e6
         by_cases e7:1≤x.size
         ·have te7:decide (1≤x.size)=true:=dct e7
          by_cases e8:x.size≤262144
          ·have te8:decide (x.size≤262144)=true:=dct e8
           have HV:Hid (out=numB x.born 0):=Jh (by rw [HD2.out,te0,te1,te2,te3,te4,te5,te6,te7,te8];rfl)
           clear HD2
           go_wp2_with first|(go_at_call 87;refine (HN.out _ _ _).mono ?_;rintro e w2 ⟨rfl,rfl⟩)|(go_at_call 119;refine (HK.out _).mono ?_;rintro e w2 ⟨rfl,rfl⟩)
           go_ret
           exact ⟨by rw [HV.out];rfl,HB1.out⟩
          ·have te8:decide (x.size≤262144)=false:=dcf e8
           have HV:Hid (out=false):=Jh (by rw [HD2.out,te8];simp)
           clear HD2
           go_wp2_with first|(go_at_call 87;refine (HN.out _ _ _).mono ?_;rintro e w2 ⟨rfl,rfl⟩)|(go_at_call 119;refine (HK.out _).mono ?_;rintro e w2 ⟨rfl,rfl⟩)
           go_ret
           exact ⟨by rw [HV.out];rfl,HB1.out⟩
         ·have te7:decide (1≤x.size)=false:=dcf e7
          have HV:Hid (out=false):=Jh (by rw [HD2.out,te7];simp)
          clear HD2
          go_wp2_with first|(go_at_call 87;refine (HN.out _ _ _).mono ?_;rintro e w2 ⟨rfl,rfl⟩)|(go_at_call 119;refine (HK.out _).mono ?_;rintro e w2 ⟨rfl,rfl⟩)
          go_ret
          exact ⟨by rw [HV.out];rfl,HB1.out⟩
        ·have te6:decide (x.rows≤2048)=false:=dcf e6
         have HV:Hid (out=false):=Jh (by rw [HD2.out,te6];simp)
         clear HD2
         go_wp2_with first|(go_at_call 87;refine (HN.out _ _ _).mono ?_;rintro e w2 ⟨rfl,rfl⟩)|(go_at_call 119;refine (HK.out _).mono ?_;rintro e w2 ⟨rfl,rfl⟩)
         go_ret
         exact ⟨by rw [HV.out];rfl,HB1.out⟩
       ·have te5:decide (1≤x.rows)=false:=dcf e5
        have HV:Hid (out=false):=Jh (by rw [HD2.out,te5];simp)
        clear HD2
        go_wp2_with first|(go_at_call 87;refine (HN.out _ _ _).mono ?_;rintro e w2 ⟨rfl,rfl⟩)|(go_at_call 119;refine (HK.out _).mono ?_;rintro e w2 ⟨rfl,rfl⟩)
        go_ret
        exact ⟨by rw [HV.out];rfl,HB1.out⟩
      ·have te4:decide (x.last<1099511627776)=false:=dcf e4
       have HV:Hid (out=false):=Jh (by rw [HD2.out,te4];simp)
       clear HD2
       go_wp2_with first|(go_at_call 87;refine (HN.out _ _ _).mono ?_;rintro e w2 ⟨rfl,rfl⟩)|(go_at_call 119;refine (HK.out _).mono ?_;rintro e w2 ⟨rfl,rfl⟩)
       go_ret
       exact ⟨by rw [HV.out];rfl,HB1.out⟩
     ·have te3:decide (x.first≤x.last)=false:=dcf e3
      have HV:Hid (out=false):=Jh (by rw [HD2.out,te3];simp)
      clear HD2
      go_wp2_with first|(go_at_call 87;refine (HN.out _ _ _).mono ?_;rintro e w2 ⟨rfl,rfl⟩)|(go_at_call 119;refine (HK.out _).mono ?_;rintro e w2 ⟨rfl,rfl⟩)
      go_ret
      exact ⟨by rw [HV.out];rfl,HB1.out⟩
    ·have te2:decide (0≤x.first)=false:=dcf e2
     have HV:Hid (out=false):=Jh (by rw [HD2.out,te2];simp)
     clear HD2
     go_wp2_with first|(go_at_call 87;refine (HN.out _ _ _).mono ?_;rintro e w2 ⟨rfl,rfl⟩)|(go_at_call 119;refine (HK.out _).mono ?_;rintro e w2 ⟨rfl,rfl⟩)
     go_ret
     exact ⟨by rw [HV.out];rfl,HB1.out⟩
   ·have te1:numB x.window 0=false:=by simpa using e1
    have HV:Hid (out=false):=Jh (by rw [HD2.out,te1];simp)
    clear HD2
    go_wp2_with first|(go_at_call 87;refine (HN.out _ _ _).mono ?_;rintro e w2 ⟨rfl,rfl⟩)|(go_at_call 119;refine (HK.out _).mono ?_;rintro e w2 ⟨rfl,rfl⟩)
    go_ret
    exact ⟨by rw [HV.out];rfl,HB1.out⟩
  ·have te0:keyB x.key=false:=by simpa using e0
   have HV:Hid (out=false):=Jh (by rw [HD2.out,te0];simp)
   clear HD2
   go_wp2_with first|(go_at_call 87;refine (HN.out _ _ _).mono ?_;rintro e w2 ⟨rfl,rfl⟩)|(go_at_call 119;refine (HK.out _).mono ?_;rintro e w2 ⟨rfl,rfl⟩)
   go_ret
   exact ⟨by rw [HV.out];rfl,HB1.out⟩
set_option maxRecDepth 100000 in
set_option maxHeartbeats 3200000 in
theorem entryR_calls (x:En) (w:World) (hx:x.Ok) (hp:x.part.size≤140737488351232):Calls Tryz.prog 37 #[enV x] w fun e w'=>e=.returned (.bool (enB x))∧Below w.heap.size w w':=by
 have HN:=Jh numR_calls
 have HK:=Jh (fun W=>keyR_calls x.key W hx.key)
 have HB:=Jh ((Below.refl w.heap.size w).alloc (Nat.le_refl _) (.cells #[.string x.key,.int .i64 x.window,.string x.part,.int .i64 x.first,.int .i64 x.last,.int .i64 x.rows,.int .i64 x.size,.int .u32 x.sum,.int .i64 x.born] 85))
 have HD:Hid (enB x=(parB x.part&&keyB x.key&&numB x.window 0&&decide (0≤x.first)&&decide (x.first≤x.last)&&decide (x.last<1099511627776)&&decide (1≤x.rows)&&decide (x.rows≤2048)&&decide (1≤x.size)&&decide (x.size≤262144)&&numB x.born 0)):=Jh rfl
 generalize enB x=out at *
 have HP:=Jh (fun W=>parR_calls x.part W hp)
 generalize parB x.part=pb at *
 clear hx
 go_enter Tryz.func37,Tryz.ntmps37
 go_wp2_with fail
 refine (HP.out _).mono ?_
 rintro e w1 ⟨⟨v,rfl⟩,hb1⟩
 have hbk:Blk w1 w.heap.size 85 #[.string x.key,.int .i64 x.window,.string x.part,.int .i64 x.first,.int .i64 x.last,.int .i64 x.rows,.int .i64 x.size,.int .u32 x.sum,.int .i64 x.born]:=(Blk.new w 85 #[.string x.key,.int .i64 x.window,.string x.part,.int .i64 x.first,.int .i64 x.last,.int .i64 x.rows,.int .i64 x.size,.int .u32 x.sum,.int .i64 x.born]).below hb1 (by simp)
 obtain ⟨p0,p1,p2,p3,p4,p5,p6,p7,p8⟩:w1.cell? ⟨w.heap.size,0,none⟩=some (.string x.key)∧w1.cell? ⟨w.heap.size,1,none⟩=some (.int .i64 x.window)∧w1.cell? ⟨w.heap.size,2,none⟩=some (.string x.part)∧w1.cell? ⟨w.heap.size,3,none⟩=some (.int .i64 x.first)∧w1.cell? ⟨w.heap.size,4,none⟩=some (.int .i64 x.last)∧w1.cell? ⟨w.heap.size,5,none⟩=some (.int .i64 x.rows)∧w1.cell? ⟨w.heap.size,6,none⟩=some (.int .i64 x.size)∧w1.cell? ⟨w.heap.size,7,none⟩=some (.int .u32 x.sum)∧w1.cell? ⟨w.heap.size,8,none⟩=some (.int .i64 x.born):=⟨hbk.cell 0,hbk.cell 1,hbk.cell 2,hbk.cell 3,hbk.cell 4,hbk.cell 5,hbk.cell 6,hbk.cell 7,hbk.cell 8⟩
 have HB1:=Jh (HB.out.trans (hb1.mono (by simp)))
 clear hbk hb1
 -- num(First),num(Last) ask more than the program does: the chain takes it apart
 by_cases e0:pb=true
 ·have te0:pb=true:=e0
  by_cases e1:keyB x.key=true
  ·have te1:keyB x.key=true:=e1
   by_cases e2:numB x.window 0=true
   ·have te2:numB x.window 0=true:=e2
    by_cases e3:numB x.first 0=true
    ·have te3:numB x.first 0=true:=e3
     by_cases e4:numB x.last 0=true
     ·have te4:numB x.last 0=true:=e4
      by_cases e5:x.first≤x.last
      ·have te5:decide (x.last<x.first)=false:=dcf (by omega)
       by_cases e6:1≤x.rows
       ·have te6:decide (1≤x.rows)=true:=dct e6
        by_cases e7:x.rows≤2048
        ·have te7:decide (x.rows≤2048)=true:=dct e7
         by_cases e8:1≤x.size
         ·have te8:decide (1≤x.size)=true:=dct e8
          by_cases e9:x.size≤262144
          ·have te9:decide (x.size≤262144)=true:=dct e9
           have HV:Hid (out=numB x.born 0):=Jh (by
            have h3:=numB_iff.1 te3
            have h4:=numB_iff.1 te4
            rw [HD.out,te0,te1,te2,dct h3.1,dct e5,dct h4.2,te6,te7,te8,te9];rfl)
           clear HD
           go_wp2_with first|(go_at_call 35;refine (HN.out _ _ _).mono ?_;rintro e w2 ⟨rfl,rfl⟩)|(go_at_call 45;refine (HK.out _).mono ?_;rintro e w2 ⟨rfl,rfl⟩)
           go_ret
           exact ⟨by rw [HV.out];rfl,HB1.out⟩
          ·have te9:decide (x.size≤262144)=false:=dcf e9
           have HV:Hid (out=false):=Jh (by
            have hd:=HD.out
            clear HD HN HK HP HB HB1
            cases out
            ·rfl
            ·exfalso
             have hd:=hd.symm
             simp only [Bool.and_eq_true,decide_eq_true_eq] at hd
             obtain ⟨⟨⟨⟨⟨⟨⟨⟨⟨⟨y0,y1⟩,y2⟩,y3⟩,y4⟩,y5⟩,y6⟩,y7⟩,y8⟩,y9⟩,-⟩:=hd
             have z3:numB x.first 0=true:=numB_iff.2 ⟨y3,by omega⟩
             have z4:numB x.last 0=true:=numB_iff.2 ⟨by omega,y5⟩
             first|(rw [y0] at te9;cases te9)|(rw [y1] at te9;cases te9)|(rw [y2] at te9;cases te9)|(rw [z3] at te9;cases te9)|(rw [z4] at te9;cases te9)|(have tt:=of_decide_eq_true te9;omega)|(have tt:=of_decide_eq_false te9;omega))
           clear HD
           go_wp2_with first|(go_at_call 35;refine (HN.out _ _ _).mono ?_;rintro e w2 ⟨rfl,rfl⟩)|(go_at_call 45;refine (HK.out _).mono ?_;rintro e w2 ⟨rfl,rfl⟩)
           go_ret
           exact ⟨by rw [HV.out];rfl,HB1.out⟩
         ·have te8:decide (1≤x.size)=false:=dcf e8
          have HV:Hid (out=false):=Jh (by
           have hd:=HD.out
           clear HD HN HK HP HB HB1
           cases out
           ·rfl
           ·exfalso
            have hd:=hd.symm
            simp only [Bool.and_eq_true,decide_eq_true_eq] at hd
            obtain ⟨⟨⟨⟨⟨⟨⟨⟨⟨⟨y0,y1⟩,y2⟩,y3⟩,y4⟩,y5⟩,y6⟩,y7⟩,y8⟩,y9⟩,-⟩:=hd
            have z3:numB x.first 0=true:=numB_iff.2 ⟨y3,by omega⟩
            have z4:numB x.last 0=true:=numB_iff.2 ⟨by omega,y5⟩
            first|(rw [y0] at te8;cases te8)|(rw [y1] at te8;cases te8)|(rw [y2] at te8;cases te8)|(rw [z3] at te8;cases te8)|(rw [z4] at te8;cases te8)|(have tt:=of_decide_eq_true te8;omega)|(have tt:=of_decide_eq_false te8;omega))
          clear HD
          go_wp2_with first|(go_at_call 35;refine (HN.out _ _ _).mono ?_;rintro e w2 ⟨rfl,rfl⟩)|(go_at_call 45;refine (HK.out _).mono ?_;rintro e w2 ⟨rfl,rfl⟩)
          go_ret
          exact ⟨by rw [HV.out];rfl,HB1.out⟩
        ·have te7:decide (x.rows≤2048)=false:=dcf e7
         have HV:Hid (out=false):=Jh (by
          have hd:=HD.out
          clear HD HN HK HP HB HB1
          cases out
          ·rfl
          ·exfalso
           have hd:=hd.symm
           simp only [Bool.and_eq_true,decide_eq_true_eq] at hd
           obtain ⟨⟨⟨⟨⟨⟨⟨⟨⟨⟨y0,y1⟩,y2⟩,y3⟩,y4⟩,y5⟩,y6⟩,y7⟩,y8⟩,y9⟩,-⟩:=hd
           have z3:numB x.first 0=true:=numB_iff.2 ⟨y3,by omega⟩
           have z4:numB x.last 0=true:=numB_iff.2 ⟨by omega,y5⟩
           first|(rw [y0] at te7;cases te7)|(rw [y1] at te7;cases te7)|(rw [y2] at te7;cases te7)|(rw [z3] at te7;cases te7)|(rw [z4] at te7;cases te7)|(have tt:=of_decide_eq_true te7;omega)|(have tt:=of_decide_eq_false te7;omega))
         clear HD
         go_wp2_with first|(go_at_call 35;refine (HN.out _ _ _).mono ?_;rintro e w2 ⟨rfl,rfl⟩)|(go_at_call 45;refine (HK.out _).mono ?_;rintro e w2 ⟨rfl,rfl⟩)
         go_ret
         exact ⟨by rw [HV.out];rfl,HB1.out⟩
       ·have te6:decide (1≤x.rows)=false:=dcf e6
        have HV:Hid (out=false):=Jh (by
         have hd:=HD.out
         clear HD HN HK HP HB HB1
         cases out
         ·rfl
         ·exfalso
          have hd:=hd.symm
          simp only [Bool.and_eq_true,decide_eq_true_eq] at hd
          obtain ⟨⟨⟨⟨⟨⟨⟨⟨⟨⟨y0,y1⟩,y2⟩,y3⟩,y4⟩,y5⟩,y6⟩,y7⟩,y8⟩,y9⟩,-⟩:=hd
          have z3:numB x.first 0=true:=numB_iff.2 ⟨y3,by omega⟩
          have z4:numB x.last 0=true:=numB_iff.2 ⟨by omega,y5⟩
          first|(rw [y0] at te6;cases te6)|(rw [y1] at te6;cases te6)|(rw [y2] at te6;cases te6)|(rw [z3] at te6;cases te6)|(rw [z4] at te6;cases te6)|(have tt:=of_decide_eq_true te6;omega)|(have tt:=of_decide_eq_false te6;omega))
        clear HD
        go_wp2_with first|(go_at_call 35;refine (HN.out _ _ _).mono ?_;rintro e w2 ⟨rfl,rfl⟩)|(go_at_call 45;refine (HK.out _).mono ?_;rintro e w2 ⟨rfl,rfl⟩)
        go_ret
        exact ⟨by rw [HV.out];rfl,HB1.out⟩
      ·have te5:decide (x.last<x.first)=true:=dct (by omega)
       have HV:Hid (out=false):=Jh (by
        have hd:=HD.out
        clear HD HN HK HP HB HB1
        cases out
        ·rfl
        ·exfalso
         have hd:=hd.symm
         simp only [Bool.and_eq_true,decide_eq_true_eq] at hd
         obtain ⟨⟨⟨⟨⟨⟨⟨⟨⟨⟨y0,y1⟩,y2⟩,y3⟩,y4⟩,y5⟩,y6⟩,y7⟩,y8⟩,y9⟩,-⟩:=hd
         have z3:numB x.first 0=true:=numB_iff.2 ⟨y3,by omega⟩
         have z4:numB x.last 0=true:=numB_iff.2 ⟨by omega,y5⟩
         first|(rw [y0] at te5;cases te5)|(rw [y1] at te5;cases te5)|(rw [y2] at te5;cases te5)|(rw [z3] at te5;cases te5)|(rw [z4] at te5;cases te5)|(have tt:=of_decide_eq_true te5;omega)|(have tt:=of_decide_eq_false te5;omega))
       clear HD
       go_wp2_with first|(go_at_call 35;refine (HN.out _ _ _).mono ?_;rintro e w2 ⟨rfl,rfl⟩)|(go_at_call 45;refine (HK.out _).mono ?_;rintro e w2 ⟨rfl,rfl⟩)
       go_ret
       exact ⟨by rw [HV.out];rfl,HB1.out⟩
     ·have te4:numB x.last 0=false:=by simpa using e4
      have HV:Hid (out=false):=Jh (by
       have hd:=HD.out
       clear HD HN HK HP HB HB1
       cases out
       ·rfl
       ·exfalso
        have hd:=hd.symm
        simp only [Bool.and_eq_true,decide_eq_true_eq] at hd
        obtain ⟨⟨⟨⟨⟨⟨⟨⟨⟨⟨y0,y1⟩,y2⟩,y3⟩,y4⟩,y5⟩,y6⟩,y7⟩,y8⟩,y9⟩,-⟩:=hd
        have z3:numB x.first 0=true:=numB_iff.2 ⟨y3,by omega⟩
        have z4:numB x.last 0=true:=numB_iff.2 ⟨by omega,y5⟩
        first|(rw [y0] at te4;cases te4)|(rw [y1] at te4;cases te4)|(rw [y2] at te4;cases te4)|(rw [z3] at te4;cases te4)|(rw [z4] at te4;cases te4)|(have tt:=of_decide_eq_true te4;omega)|(have tt:=of_decide_eq_false te4;omega))
      clear HD
      go_wp2_with first|(go_at_call 35;refine (HN.out _ _ _).mono ?_;rintro e w2 ⟨rfl,rfl⟩)|(go_at_call 45;refine (HK.out _).mono ?_;rintro e w2 ⟨rfl,rfl⟩)
      go_ret
      exact ⟨by rw [HV.out];rfl,HB1.out⟩
    ·have te3:numB x.first 0=false:=by simpa using e3
     have HV:Hid (out=false):=Jh (by
      have hd:=HD.out
      clear HD HN HK HP HB HB1
      cases out
      ·rfl
      ·exfalso
       have hd:=hd.symm
       simp only [Bool.and_eq_true,decide_eq_true_eq] at hd
       obtain ⟨⟨⟨⟨⟨⟨⟨⟨⟨⟨y0,y1⟩,y2⟩,y3⟩,y4⟩,y5⟩,y6⟩,y7⟩,y8⟩,y9⟩,-⟩:=hd
       have z3:numB x.first 0=true:=numB_iff.2 ⟨y3,by omega⟩
       have z4:numB x.last 0=true:=numB_iff.2 ⟨by omega,y5⟩
       first|(rw [y0] at te3;cases te3)|(rw [y1] at te3;cases te3)|(rw [y2] at te3;cases te3)|(rw [z3] at te3;cases te3)|(rw [z4] at te3;cases te3)|(have tt:=of_decide_eq_true te3;omega)|(have tt:=of_decide_eq_false te3;omega))
     clear HD
     go_wp2_with first|(go_at_call 35;refine (HN.out _ _ _).mono ?_;rintro e w2 ⟨rfl,rfl⟩)|(go_at_call 45;refine (HK.out _).mono ?_;rintro e w2 ⟨rfl,rfl⟩)
     go_ret
     exact ⟨by rw [HV.out];rfl,HB1.out⟩
   ·have te2:numB x.window 0=false:=by simpa using e2
    have HV:Hid (out=false):=Jh (by
     have hd:=HD.out
     clear HD HN HK HP HB HB1
     cases out
     ·rfl
     ·exfalso
      have hd:=hd.symm
      simp only [Bool.and_eq_true,decide_eq_true_eq] at hd
      obtain ⟨⟨⟨⟨⟨⟨⟨⟨⟨⟨y0,y1⟩,y2⟩,y3⟩,y4⟩,y5⟩,y6⟩,y7⟩,y8⟩,y9⟩,-⟩:=hd
      have z3:numB x.first 0=true:=numB_iff.2 ⟨y3,by omega⟩
      have z4:numB x.last 0=true:=numB_iff.2 ⟨by omega,y5⟩
      first|(rw [y0] at te2;cases te2)|(rw [y1] at te2;cases te2)|(rw [y2] at te2;cases te2)|(rw [z3] at te2;cases te2)|(rw [z4] at te2;cases te2)|(have tt:=of_decide_eq_true te2;omega)|(have tt:=of_decide_eq_false te2;omega))
    clear HD
    go_wp2_with first|(go_at_call 35;refine (HN.out _ _ _).mono ?_;rintro e w2 ⟨rfl,rfl⟩)|(go_at_call 45;refine (HK.out _).mono ?_;rintro e w2 ⟨rfl,rfl⟩)
    go_ret
    exact ⟨by rw [HV.out];rfl,HB1.out⟩
  ·have te1:keyB x.key=false:=by simpa using e1
   have HV:Hid (out=false):=Jh (by
    have hd:=HD.out
    clear HD HN HK HP HB HB1
    cases out
    ·rfl
    ·exfalso
     have hd:=hd.symm
     simp only [Bool.and_eq_true,decide_eq_true_eq] at hd
     obtain ⟨⟨⟨⟨⟨⟨⟨⟨⟨⟨y0,y1⟩,y2⟩,y3⟩,y4⟩,y5⟩,y6⟩,y7⟩,y8⟩,y9⟩,-⟩:=hd
     have z3:numB x.first 0=true:=numB_iff.2 ⟨y3,by omega⟩
     have z4:numB x.last 0=true:=numB_iff.2 ⟨by omega,y5⟩
     first|(rw [y0] at te1;cases te1)|(rw [y1] at te1;cases te1)|(rw [y2] at te1;cases te1)|(rw [z3] at te1;cases te1)|(rw [z4] at te1;cases te1)|(have tt:=of_decide_eq_true te1;omega)|(have tt:=of_decide_eq_false te1;omega))
   clear HD
   go_wp2_with first|(go_at_call 35;refine (HN.out _ _ _).mono ?_;rintro e w2 ⟨rfl,rfl⟩)|(go_at_call 45;refine (HK.out _).mono ?_;rintro e w2 ⟨rfl,rfl⟩)
   go_ret
   exact ⟨by rw [HV.out];rfl,HB1.out⟩
 ·have te0:pb=false:=by simpa using e0
  have HV:Hid (out=false):=Jh (by
   have hd:=HD.out
   clear HD HN HK HP HB HB1
   cases out
   ·rfl
   ·exfalso
    have hd:=hd.symm
    simp only [Bool.and_eq_true,decide_eq_true_eq] at hd
    obtain ⟨⟨⟨⟨⟨⟨⟨⟨⟨⟨y0,y1⟩,y2⟩,y3⟩,y4⟩,y5⟩,y6⟩,y7⟩,y8⟩,y9⟩,-⟩:=hd
    have z3:numB x.first 0=true:=numB_iff.2 ⟨y3,by omega⟩
    have z4:numB x.last 0=true:=numB_iff.2 ⟨by omega,y5⟩
    first|(rw [y0] at te0;cases te0)|(rw [y1] at te0;cases te0)|(rw [y2] at te0;cases te0)|(rw [z3] at te0;cases te0)|(rw [z4] at te0;cases te0)|(have tt:=of_decide_eq_true te0;omega)|(have tt:=of_decide_eq_false te0;omega))
  clear HD
  go_wp2_with first|(go_at_call 35;refine (HN.out _ _ _).mono ?_;rintro e w2 ⟨rfl,rfl⟩)|(go_at_call 45;refine (HK.out _).mono ?_;rintro e w2 ⟨rfl,rfl⟩)
  go_ret
  exact ⟨by rw [HV.out];rfl,HB1.out⟩
end Go.Proofs.YtibnehaibgbliaaGreat.Mf
