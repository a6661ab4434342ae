/- Laws for the row's walk. -/
import Derived.Test.YtibnehaibgbliaaGreatR12
import Derived.Test.YtibnehaibgbliaaGreatR13
set_option linter.unusedVariables false
set_option linter.unusedSimpArgs false
open Go.Lib renaming hid → Jh
open List renaming setIfInBounds_toArray → Jd, set_cons_zero → Je, set_cons_succ → Jf, getElem_cons_zero → Jg, getElem_cons_succ → Ji, getElem_toArray → Jk
namespace Go.Proofs.YtibnehaibgbliaaGreat.Mf
open Go.RowKit Go.Proofs.YtibnehaibgbliaaGreat
def wmz (w:World) (m:Md) (p:Pl) (d:Ed) (q:Pd):World:=((w.alloc (.cells #[.int .i64 m.gen,.int .i64 m.cut,.int .i64 m.fence,.slice p.AE m.E.length p.cE,.slice p.AM m.M.length p.cM,.slice p.AO m.O.length p.cO] 53)).alloc (.cells #[.slice q.AA d.add.length q.cA,.slice q.AD d.drop.length q.cD,.slice q.AM d.marks.length q.cM,.int .i64 d.cut,.int .i64 d.fence,.int .i64 d.by_.agent,.int .i64 d.by_.life,.int .i64 d.by_.count] 28)).alloc (.cells #[.int .i64 0,.int .i64 0,.int .i64 0,.slice none 0 0,.slice none 0 0,.slice none 0 0] 53)
theorem wmz_below (w:World) (m:Md) (p:Pl) (d:Ed) (q:Pd) {W:World} (hW:Below (w.heap.size+3) (wmz w m p d q) W):Below w.heap.size w W∧w.heap.size+3≤W.heap.size:=by
 refine ⟨((((Below.refl w.heap.size w).alloc (Nat.le_refl _) (.cells #[.int .i64 m.gen,.int .i64 m.cut,.int .i64 m.fence,.slice p.AE m.E.length p.cE,.slice p.AM m.M.length p.cM,.slice p.AO m.O.length p.cO] 53)).alloc (by simp) (.cells #[.slice q.AA d.add.length q.cA,.slice q.AD d.drop.length q.cD,.slice q.AM d.marks.length q.cM,.int .i64 d.cut,.int .i64 d.fence,.int .i64 d.by_.agent,.int .i64 d.by_.life,.int .i64 d.by_.count] 28)).alloc (by simp;omega) _).trans (hW.mono (by omega)),?_⟩
 have:=hW.size
 unfold wmz at this
 rw [World.size_alloc,World.size_alloc,World.size_alloc] at this
 exact this
theorem wmz_blk (w:World) (m:Md) (p:Pl) (d:Ed) (q:Pd) {W:World} (hW:Below (w.heap.size+3) (wmz w m p d q) W):Blk W (w.heap.size+2) 53 #[.int .i64 0,.int .i64 0,.int .i64 0,.slice none 0 0,.slice none 0 0,.slice none 0 0]:=by
 have h2:=Blk.new ((w.alloc (.cells #[.int .i64 m.gen,.int .i64 m.cut,.int .i64 m.fence,.slice p.AE m.E.length p.cE,.slice p.AM m.M.length p.cM,.slice p.AO m.O.length p.cO] 53)).alloc (.cells #[.slice q.AA d.add.length q.cA,.slice q.AD d.drop.length q.cD,.slice q.AM d.marks.length q.cM,.int .i64 d.cut,.int .i64 d.fence,.int .i64 d.by_.agent,.int .i64 d.by_.life,.int .i64 d.by_.count] 28)) 53 #[.int .i64 0,.int .i64 0,.int .i64 0,.slice none 0 0,.slice none 0 0,.slice none 0 0]
 rw [World.size_alloc,World.size_alloc] at h2
 exact Blk.below h2 hW (by omega)
theorem wmz_at (w:World) (m:Md) (p:Pl) (d:Ed) (q:Pd) {W:World} (hW:Below (w.heap.size+3) (wmz w m p d q) W):((W.cell? ⟨w.heap.size,0,none⟩=some (.int .i64 m.gen)∧W.cell? ⟨w.heap.size,1,none⟩=some (.int .i64 m.cut)∧W.cell? ⟨w.heap.size,2,none⟩=some (.int .i64 m.fence)∧W.cell? ⟨w.heap.size,3,none⟩=some (.slice p.AE m.E.length p.cE)∧W.cell? ⟨w.heap.size,4,none⟩=some (.slice p.AM m.M.length p.cM)∧W.cell? ⟨w.heap.size,5,none⟩=some (.slice p.AO m.O.length p.cO))∧W.cell? ⟨(w.heap.size+1),0,none⟩=some (.slice q.AA d.add.length q.cA)∧W.cell? ⟨(w.heap.size+1),1,none⟩=some (.slice q.AD d.drop.length q.cD)∧W.cell? ⟨(w.heap.size+1),2,none⟩=some (.slice q.AM d.marks.length q.cM)∧W.cell? ⟨(w.heap.size+1),3,none⟩=some (.int .i64 d.cut)∧W.cell? ⟨(w.heap.size+1),4,none⟩=some (.int .i64 d.fence)∧W.cell? ⟨(w.heap.size+1),5,none⟩=some (.int .i64 d.by_.agent)∧W.cell? ⟨(w.heap.size+1),6,none⟩=some (.int .i64 d.by_.life)∧W.cell? ⟨(w.heap.size+1),7,none⟩=some (.int .i64 d.by_.count))∧(W.cell? ⟨w.heap.size+2,0,none⟩=some (.int .i64 0)∧W.cell? ⟨w.heap.size+2,1,none⟩=some (.int .i64 0)∧W.cell? ⟨w.heap.size+2,2,none⟩=some (.int .i64 0)∧W.cell? ⟨w.heap.size+2,3,none⟩=some (.slice none 0 0)∧W.cell? ⟨w.heap.size+2,4,none⟩=some (.slice none 0 0)∧W.cell? ⟨w.heap.size+2,5,none⟩=some (.slice none 0 0))∧(W.frozen? ⟨w.heap.size+2,0,none⟩=false∧W.frozen? ⟨w.heap.size+2,1,none⟩=false∧W.frozen? ⟨w.heap.size+2,2,none⟩=false∧W.frozen? ⟨w.heap.size+2,3,none⟩=false∧W.frozen? ⟨w.heap.size+2,4,none⟩=false∧W.frozen? ⟨w.heap.size+2,5,none⟩=false):=by
 have h1:=((((Blk.new w 53 #[.int .i64 m.gen,.int .i64 m.cut,.int .i64 m.fence,.slice p.AE m.E.length p.cE,.slice p.AM m.M.length p.cM,.slice p.AO m.O.length p.cO]).alloc (.cells #[.slice q.AA d.add.length q.cA,.slice q.AD d.drop.length q.cD,.slice q.AM d.marks.length q.cM,.int .i64 d.cut,.int .i64 d.fence,.int .i64 d.by_.agent,.int .i64 d.by_.life,.int .i64 d.by_.count] 28)).alloc (.cells #[.int .i64 0,.int .i64 0,.int .i64 0,.slice none 0 0,.slice none 0 0,.slice none 0 0] 53)).below hW (by omega))
 have h2:=(Blk.new (w.alloc (.cells #[.int .i64 m.gen,.int .i64 m.cut,.int .i64 m.fence,.slice p.AE m.E.length p.cE,.slice p.AM m.M.length p.cM,.slice p.AO m.O.length p.cO] 53)) 28 #[.slice q.AA d.add.length q.cA,.slice q.AD d.drop.length q.cD,.slice q.AM d.marks.length q.cM,.int .i64 d.cut,.int .i64 d.fence,.int .i64 d.by_.agent,.int .i64 d.by_.life,.int .i64 d.by_.count]).alloc (.cells #[.int .i64 0,.int .i64 0,.int .i64 0,.slice none 0 0,.slice none 0 0,.slice none 0 0] 53)
 rw [World.size_alloc] at h2
 have h3:=Blk.below h2 hW (by omega)
 have h4:=wmz_blk w m p d q hW
 exact ⟨⟨⟨h1.cell 0,h1.cell 1,h1.cell 2,h1.cell 3,h1.cell 4,h1.cell 5⟩,⟨h3.cell 0,h3.cell 1,h3.cell 2,h3.cell 3,h3.cell 4,h3.cell 5,h3.cell 6,h3.cell 7⟩⟩,⟨h4.cell 0,h4.cell 1,h4.cell 2,h4.cell 3,h4.cell 4,h4.cell 5⟩,h4.frozen 0,h4.frozen 1,h4.frozen 2,h4.frozen 3,h4.frozen 4,h4.frozen 5⟩
theorem zEn (w:World):(zeroValue 85).run Tryz.prog w=.ok (.agg #[.string .empty,.int .i64 0,.string .empty,.int .i64 0,.int .i64 0,.int .i64 0,.int .i64 0,.int .u32 0,.int .i64 0]) w:=by kernel_rfl
theorem max_run {P:Program} (ats:Array TypeId) (ty:TypeId) (a b:Int) (w:World):(Builtin.max_ ats ty #[.int .i64 a,.int .i64 b]).run P w=.ok (.int .i64 (maxI a b)) w:=by
 unfold maxI
 by_cases h:a≤b
 ·rw [if_pos h]
  rcases Int.lt_or_eq_of_le h with h1|h1
  ·simp [Builtin.max_,Builtin.max2,h1]
  ·subst h1;simp [Builtin.max_,Builtin.max2]
 ·rw [if_neg h]
  simp [Builtin.max_,Builtin.max2,show ¬ a<b by omega]
theorem key_new {l:List En} (h:(keys l).Nodup) {j:Nat} (hj:j<l.length):∀ y∈l.take j,y.key≠(gt l j).key:=by
 intro y hy e
 obtain ⟨i,hi,rfl⟩:=mem_gt hy
 rw [List.length_take] at hi
 rw [gt_take (by omega) (by omega)] at e
 exact nd_no (key:=En.key) hj (by omega:i<j) e h
theorem drop_new {l:List ByteArray} (h:l.Nodup) {j:Nat} (hj:j<l.length):gt l j∉l.take j:=by
 intro hy
 obtain ⟨i,hi,e⟩:=mem_gt hy
 rw [List.length_take] at hi
 rw [gt_take (by omega) (by omega)] at e
 exact nd_no (key:=id) hj (by omega:i<j) e (by rw [List.map_id];exact h)
structure RightF (m:Md):Prop where
 gen:0≤m.gen∧m.gen<1099511627776
 cut:0≤m.cut∧m.cut<1099511627776
 fence:0≤m.fence∧m.fence<1099511627776
 lenE:m.E.length≤256
 low:∀ x∈m.E,m.cut≤x.window
 enE:∀ x∈m.E,enB x=true
 srtE:m.E.Pairwise fun a b=>ltE a b=true
 mkM:∀ x∈m.M,mkB x=true
 srtM:Srt Mk.maker m.M
 owO:∀ x∈m.O,owB x=true
 srtO:Srt Ow.agent m.O
theorem ltM_srt {l:List Mk}:(l.Pairwise fun a b=>ltM a b=true)↔Srt Mk.maker l:=by
 unfold ltM;simp only [decide_eq_true_eq]
theorem ltO_srt {l:List Ow}:(l.Pairwise fun a b=>ltO a b=true)↔Srt Ow.agent l:=by
 unfold ltO;simp only [decide_eq_true_eq]
theorem right_iff {m:Md}:rightB m=true↔RightF m:=by
 unfold rightB lowB
 simp only [Bool.and_eq_true,Bool.not_eq_true',List.any_eq_false,decide_eq_true_eq,numB_iff,ris_iff ltE_trans,ris_iff ltM_trans,ris_iff ltO_trans,ltM_srt,ltO_srt]
 constructor
 ·rintro ⟨⟨⟨⟨⟨⟨⟨h1,h2⟩,h3⟩,h4⟩,h5⟩,h6⟩,h7⟩,h8⟩
  exact ⟨h1,h2,h3,h4,fun x hx=>by have:=h5 x hx;omega,h6.1,h6.2,h7.1,h7.2,h8.1,h8.2⟩
 ·intro h
  exact ⟨⟨⟨⟨⟨⟨⟨h.gen,h.cut⟩,h.fence⟩,h.lenE⟩,fun x hx=>by have:=h.low x hx;omega⟩,h.enE,h.srtE⟩,h.mkM,h.srtM⟩,h.owO,h.srtO⟩
theorem right_f {m:Md} (h:rightB m=true):RightF m:=right_iff.1 h
theorem RightF.keysE {m:Md} (h:RightF m):(keys m.E).Nodup:=by
 unfold keys
 rw [List.nodup_iff_pairwise_ne,List.pairwise_map]
 refine h.srtE.imp fun {a b} hab e=>?_
 unfold ltE at hab
 rw [e,ltS_irr] at hab
 cases hab
structure EditF (d:Ed):Prop where
 enA:∀ x∈d.add,enB x=true
 keyD:∀ k∈d.drop,keyB k=true
 ndA:(keys d.add).Nodup
 ndD:d.drop.Nodup
 mkA:∀ x∈d.marks,mkB x=true
 srtP:d.marks.Pairwise fun a b=>ltP a b=true
 cut:0≤d.cut∧d.cut<1099511627776
 fence:0≤d.fence∧d.fence<1099511627776
 ow:owB d.by_=true
theorem edit_iff {d:Ed}:editB d=true↔EditF d:=by
 unfold editB
 simp only [Bool.and_eq_true,List.all_eq_true,decide_eq_true_eq,numB_iff,ris_iff ltP_trans]
 constructor
 ·rintro ⟨⟨⟨⟨⟨⟨⟨h1,h2⟩,h3⟩,h4⟩,h5⟩,h6⟩,h7⟩,h8⟩
  exact ⟨h1,h2,h3,h4,h5.1,h5.2,h6,h7,h8⟩
 ·intro h
  exact ⟨⟨⟨⟨⟨⟨⟨h.enA,h.keyD⟩,h.ndA⟩,h.ndD⟩,h.mkA,h.srtP⟩,h.cut⟩,h.fence⟩,h.ow⟩
theorem edit_f {d:Ed} (h:editB d=true):EditF d:=edit_iff.1 h
theorem mk_in {x:Mk} (h:mkB x=true):(1≤x.maker∧x.maker≤64)∧1≤x.seq∧x.seq<1099511627776:=by
 unfold mkB at h
 simp only [Bool.and_eq_true,decide_eq_true_eq,numB_iff] at h
 omega
theorem ow_in {x:Ow} (h:owB x=true):(1≤x.agent∧x.agent≤8)∧(1≤x.life∧x.life<1099511627776)∧1≤x.count∧x.count<1099511627776:=by
 unfold owB at h
 simp only [Bool.and_eq_true,decide_eq_true_eq,numB_iff] at h
 omega
theorem srt_len {α:Type} {f:α→Int}:∀ {l:List α} {a b:Int},Srt f l→(∀ x∈l,a≤f x∧f x≤b)→a≤b+1→(l.length:Int)≤b-a+1
 | [],a,b,_,_,h=>by simp;omega
 | x::r,a,b,hs,hr,h=>by
  rw [Srt,List.pairwise_cons] at hs
  have hx:=hr x (by simp)
  have:=srt_len (l:=r) (a:=f x+1) (b:=b) hs.2 (fun y hy=>⟨by have:=hs.1 y hy;omega,(hr y (List.mem_cons_of_mem _ hy)).2⟩) (by omega)
  rw [List.length_cons]
  omega
theorem fen1_max (m:Md) (d:Ed) (x:En):fen1 m d x=decide (x.born<maxI m.fence d.fence):=by
 unfold fen1 maxI
 by_cases h:m.fence≤d.fence
 ·rw [if_pos h,← Bool.decide_or];exact decide_eq_decide.2 (by omega)
 ·rw [if_neg h,← Bool.decide_or];exact decide_eq_decide.2 (by omega)
theorem mget_pw {κ β:Type} [DecidableEq κ] {l:List (κ × β)} (hn:l.Pairwise fun p q=>p.1≠q.1) {p:κ × β} (hp:p∈l):mget l p.1=some p.2:=by
 cases hg:mget l p.1 with
 | none=>exact absurd rfl (mget_none.1 hg _ hp)
 | some u =>
  have hm:=mget_mem hg
  obtain ⟨i,hi,e⟩:=List.getElem_of_mem hm
  obtain ⟨j,hj,rfl⟩:=List.getElem_of_mem hp
  rw [List.pairwise_iff_getElem] at hn
  rcases Nat.lt_trichotomy i j with c|c|c
  ·exact absurd (by rw [e]) (hn i j hi hj c)
  ·subst c;rw [e]
  ·exact absurd (by rw [e]) (hn j i hj hi c)
theorem ecs1 (x:En):∀ u∈x.cs,u.oneCell'=true:=fun u hu=>ecs_one [x] u (by simpa using hu)
theorem only_below {g:Nat} {a w w':World} (h:Only g a w) (hb:Below a.heap.size w w'):Only g a w' :=
 ⟨hb.os.trans h.os,hb.tape.trans h.tape,hb.output.trans h.output,Nat.le_trans h.size hb.size,fun i hi hne=>(hb.block i hi).trans (h.block i hi hne)⟩
theorem putMs_few {l ms:List Mk} (hs:Srt Mk.maker l) (hl:∀ x∈l,mkB x=true) (hm:∀ x∈ms,mkB x=true):(putMs ms l).length≤64:=by
 have:=srt_len (l:=putMs ms l) (a:=1) (b:=64) (putMs_srt ms hs) (fun x hx=>by
  rcases putMs_mem ms hs hx with h|h
  ·exact (mk_in (hm x h)).1
  ·exact (mk_in (hl x h)).1) (by omega)
 omega
theorem own_apart {v v':Value} {a b:Nat} (h:∀ g,v.ownBlock=some g→a≤g∧g<b) (h':∀ g,v'.ownBlock=some g→b≤g):v.ownBlock=none∨v.ownBlock≠v'.ownBlock:=by
 rcases hv:v.ownBlock with _|g
 ·exact .inl rfl
 ·right
  intro e
  have h1:=h g hv
  have h2:=h' g e.symm
  omega
theorem cutOf_max (m:Md) (d:Ed):cutOf m d=maxI m.cut d.cut:=rfl
theorem fenOf_max (m:Md) (d:Ed):fenOf m d=maxI m.fence d.fence:=rfl
theorem ret_ok {w W:World} {m:Md} {d:Ed} {A A' Ab:Option Addr} {c c' cb n:Nat} (hA:appE m d=0) (hn:n=(ents m d).length)
  (eE:W.ownsRow w.heap.size 85 9 (.slice A n c) n ((ents m d).flatMap En.cs))
  (eM:W.ownsRow w.heap.size 90 2 (.slice A' (mrks m d).length c') (mrks m d).length ((mrks m d).flatMap Mk.cs))
  (eO:W.ownsRow w.heap.size 26 3 (.slice Ab (putL Ow.agent d.by_ m.O).length cb) (putL Ow.agent d.by_ m.O).length ((putL Ow.agent d.by_ m.O).flatMap Ow.cs))
  (hb:Below w.heap.size w W):RetAp w (appM m d) (appE m d) (.returned (.tuple #[.agg #[.int .i64 (m.gen+1),.int .i64 (maxI m.cut d.cut),.int .i64 (maxI m.fence d.fence),.slice A n c,.slice A' (mrks m d).length c',.slice Ab (putL Ow.agent d.by_ m.O).length cb],.int .i64 0])) W:=by
 subst hn
 have e:appM m d=appl m d:=by unfold appM;rw [if_pos hA]
 rw [e,hA,← cutOf_max,← fenOf_max]
 refine ⟨⟨A,c,A',c',Ab,cb⟩,?_,⟨eE,eM,eO⟩,hb⟩
 unfold appl owns
 rfl
set_option maxRecDepth 100000 in
set_option maxHeartbeats 25600000 in
theorem apply_calls (w:World) {B:Nat} {m:Md} {p:Pl} {d:Ed} {q:Pd} (h:Man w B m p) (hd:Edi w B d q) (hB:B≤w.heap.size) (hs:Short m.E) (hsd:Short d.add) (hm:Sh w):Calls Tryz.prog 64 #[mdV m p,edV d q] w (RetAp w (appM m d) (appE m d)):=by
 have HT:=Jh fun W=>wmz_at w m p d q (W:=W)
 have HZ:=Jh fun W=>wmz_blk w m p d q (W:=W)
 have HB0:=Jh fun W=>wmz_below w m p d q (W:=W)
 have HR1:=Jh fun W (hW:Below w.heap.size w W)=>right_calls W (h.below (hW.mono hB)) (by have:=hW.size;omega) hs (hm.below hW hm.lt)
 have HR2:=Jh fun W (hW:Below w.heap.size w W)=>edit_calls W (hd.below (hW.mono hB)) (by have:=hW.size;omega) hsd (hm.below hW hm.lt)
 have HSq:=Jh fun W (hW:Below w.heap.size w W) k=>mark_of W (h.below (hW.mono hB)) (by have:=hW.size;omega) k
 have HRO:=Jh fun W (hW:Below w.heap.size w W)=>h.ro.below (hW.mono hB)
 have HRK:=Jh fun W (hW:Below w.heap.size w W)=>h.rm.below (hW.mono hB)
 have HRE:=Jh fun W (hW:Below w.heap.size w W)=>h.re.below (hW.mono hB)
 have HRA:=Jh fun W (hW:Below w.heap.size w W)=>hd.ra.below (hW.mono hB)
 have HRD:=Jh fun W (hW:Below w.heap.size w W)=>hd.rd.below (hW.mono hB)
 have HRM:=Jh fun W (hW:Below w.heap.size w W)=>hd.rm.below (hW.mono hB)
 have HRO2:=HRO
 have HKE:Hid (∀ x∈m.E,x.key.size≤maxLen):=Jh fun x hx=>Nat.le_trans (h.ok x hx).key (by unfold maxLen;omega)
 have HKA:Hid (∀ x∈d.add,x.key.size≤maxLen):=Jh fun x hx=>Nat.le_trans (hd.ok x hx).key (by unfold maxLen;omega)
 have HDs:Hid (∀ x∈d.drop,x.size≤maxLen):=Jh fun x hx=>Nat.le_trans (hd.okd x hx) (by unfold maxLen;omega)
 have HD:Hid (refE m d=if (!rightB m||!editB d)=true then 4 else if verB m d=true then 8 else if dupB m d=true then 12 else if lostB m d=true then 17 else if fenB m d=true then 11 else if exiB m d=true then 18 else if m.gen=1099511627775 then 2 else 0):=Jh rfl
 have HU:Hid (Tryz.prog.underlying 158=some (.map 9 85)):=Jh Tryz.underlying158
 have hle:=h.le
 have hlo:=h.lo
 have hlm':=h.lm
 have hla:=hd.la
 have hld:=hd.ld
 have hlm:=hd.lm
 have HWm:Hid (wmz w m p d q=((w.alloc (.cells #[.int .i64 m.gen,.int .i64 m.cut,.int .i64 m.fence,.slice p.AE m.E.length p.cE,.slice p.AM m.M.length p.cM,.slice p.AO m.O.length p.cO] 53)).alloc (.cells #[.slice q.AA d.add.length q.cA,.slice q.AD d.drop.length q.cD,.slice q.AM d.marks.length q.cM,.int .i64 d.cut,.int .i64 d.fence,.int .i64 d.by_.agent,.int .i64 d.by_.life,.int .i64 d.by_.count] 28)).alloc (.cells #[.int .i64 0,.int .i64 0,.int .i64 0,.slice none 0 0,.slice none 0 0,.slice none 0 0] 53)):=Jh rfl
 clear h hd hs hsd hm
 obtain ⟨AE,cE,AM,cM,AO,cO⟩:=p
 obtain ⟨DA,c1,DD,c2,DM,c3⟩:=q
 dsimp only at *
 have HW1:=Jh (Below.refl (w.heap.size+3) (wmz w m ⟨AE,cE,AM,cM,AO,cO⟩ d ⟨DA,c1,DD,c2,DM,c3⟩))
 go_enter Tryz.func64,Tryz.ntmps64
 go_wp2_with fail
 rw [← HWm.out]
 clear HWm
 generalize wmz w m ⟨AE,cE,AM,cM,AO,cO⟩ d ⟨DA,c1,DD,c2,DM,c3⟩=wm at *
 have hb0:=HB0.out _ HW1.out
 cases hr1:rightB m
 ·have HX:=HR1.out _ hb0.1
  rw [hr1] at HX
  have HX2:=Jh HX
  have HV:Hid (appE m d=4):=Jh (appE_ref (by rw [HD.out,hr1];rfl) (by decide))
  clear HX HD hr1
  refine HX2.out.mono ?_
  rintro e w1 ⟨rfl,hb1⟩
  have HE:Hid (Below (w.heap.size+3) wm w1):=Jh (hb1.mono hb0.2)
  obtain ⟨-,⟨⟨l0,l1,l2,l3,l4,l5⟩,⟨k0,k1,k2,k3,k4,k5⟩⟩⟩:=HT.out _ HE.out
  go_wp2
  refine bodyPost_ret (results_mf rfl _ _ (w.heap.size+2) 53 #[.int .i64 0,.int .i64 0,.int .i64 0,.slice none 0 0,.slice none 0 0,.slice none 0 0] _ _ rfl rfl (set6_blk (HZ.out _ HE.out) _ _ _ _ _ _) Tryz.underlying53 rfl (by kernel_rfl)) rfl ?_
  exact ret_err HV.out (by decide) (set6_below (HB0.out _ HE.out).1 (by omega) _ _ _ _ _ _)
 have HX:=HR1.out _ hb0.1
 rw [hr1] at HX
 have HX2:=Jh HX
 clear HX
 refine HX2.out.mono ?_
 rintro e w1 ⟨rfl,hb1⟩
 have HW2:Hid (Below (w.heap.size+3) wm w1):=Jh (hb1.mono hb0.2)
 have hb2:=HB0.out _ HW2.out
 obtain ⟨⟨-,s0,s1,s2,s3,s4,s5,s6,s7⟩,-⟩:=HT.out _ HW2.out
 clear hb1 HW1 HR1
 cases hr2:editB d
 ·have HX:=HR2.out _ hb2.1
  rw [hr2] at HX
  have HX3:=Jh HX
  have HV:Hid (appE m d=4):=Jh (appE_ref (by rw [HD.out,hr1,hr2];rfl) (by decide))
  clear HX HD hr1 hr2
  go_wp2_with (go_at_call 100;refine HX3.out.mono ?_;rintro e w3 ⟨rfl,hb3⟩;have HE:Hid (Below (w.heap.size+3) wm w3):=Jh (HW2.out.trans (hb3.mono hb2.2));obtain ⟨-,⟨⟨l0,l1,l2,l3,l4,l5⟩,⟨k0,k1,k2,k3,k4,k5⟩⟩⟩:=HT.out _ HE.out)
  refine bodyPost_ret (results_mf rfl _ _ (w.heap.size+2) 53 #[.int .i64 0,.int .i64 0,.int .i64 0,.slice none 0 0,.slice none 0 0,.slice none 0 0] _ _ rfl rfl (set6_blk (HZ.out _ HE.out) _ _ _ _ _ _) Tryz.underlying53 rfl (by kernel_rfl)) rfl ?_
  exact ret_err HV.out (by decide) (set6_below (HB0.out _ HE.out).1 (by omega) _ _ _ _ _ _)
 have HX:=HR2.out _ hb2.1
 rw [hr2] at HX
 have HX3:=Jh HX
 have HD2:Hid (refE m d=if verB m d=true then 8 else if dupB m d=true then 12 else if lostB m d=true then 17 else if fenB m d=true then 11 else if exiB m d=true then 18 else if m.gen=1099511627775 then 2 else 0):=Jh (by rw [HD.out,hr1,hr2];rfl)
 have HRf:=Jh (right_f hr1)
 have HEf:=Jh (edit_f hr2)
 have HND:=Jh (edit_f hr2).ndD
 have HNE:=Jh (right_f hr1).keysE
 have HRi:=Jh hr1
 have HEd:=Jh hr2
 clear HX HD hr1 hr2
 go_wp2_with (go_at_call 100;refine HX3.out.mono ?_;rintro e w3 ⟨rfl,hb3⟩;have HW3:Hid (Below (w.heap.size+3) wm w3):=Jh (HW2.out.trans (hb3.mono hb2.2));obtain ⟨⟨⟨r0,r1,r2,r3,r4,r5⟩,⟨z0,z1,z2,z3,z4,z5,z6,z7⟩⟩,-⟩:=HT.out w3 HW3.out)
 clear HW2 hb3 HR2 s0 s1 s2 s3 s4 s5 s6 s7 hb0 hb2
 go_loopw [42] (fun i wr=>∃ j:Nat,j≤m.O.length∧i=.int .i64 (j:Int)∧Hid (∀ i,i<j→(ver1 d) (gt m.O i)=false)∧Hid (Below (w.heap.size+3) wm wr)) (fun i _=>m.O.length-(intOf i).toNat)
 case atStart=>exact ⟨0,Nat.zero_le _,rfl,Jh (fun i hi=>absurd hi (Nat.not_lt_zero i)),HW3⟩
 case round =>
  obtain ⟨j,hj,rfl,HF,HW4⟩:=hrel
  clear HW3
  have HW3:=HW4
  clear HW4
  clear r0 r1 r2 r3 r4 r5 z0 z1 z2 z3 z4 z5 z6 z7
  obtain ⟨hb00,hsz⟩:=HB0.out wr HW3.out
  have HGS:=Jh hsz
  obtain ⟨⟨⟨s0,s1,s2,s3,s4,s5⟩,⟨t0,t1,t2,t3,t4,t5,t6,t7⟩⟩,⟨⟨z0,z1,z2,z3,z4,z5⟩,⟨y0,y1,y2,y3,y4,y5⟩⟩⟩:=HT.out wr HW3.out
  have hg0:w.heap.size<wr.heap.size:=by omega
  have hg1:w.heap.size+1<wr.heap.size:=by omega
  have hg2:w.heap.size+2<wr.heap.size:=by omega
  by_cases hlt:j<m.O.length
  ·have hr:=HRO.out wr hb00
   obtain ⟨b,off,rfl,hbB⟩:=row_addr hr (by omega)
   obtain ⟨p0,p1,p2⟩:wr.cell? ⟨b,off+j*3,none⟩=some (.int .i64 (gt m.O j).agent)∧wr.cell? ⟨b,off+j*3+1,none⟩=some (.int .i64 (gt m.O j).life)∧wr.cell? ⟨b,off+j*3+2,none⟩=some (.int .i64 (gt m.O j).count):=⟨row_cell ocs_len hr hlt (j:=0) rfl,row_cell ocs_len hr hlt (j:=1) rfl,row_cell ocs_len hr hlt (j:=2) rfl⟩
   have HE:Hid (Below (w.heap.size+3) wm (wr.alloc (.cells #[.int .i64 (gt m.O j).agent,.int .i64 (gt m.O j).life,.int .i64 (gt m.O j).count] 26))):=Jh (HW3.out.trans (((Below.refl wr.heap.size wr).alloc (Nat.le_refl _) (.cells #[.int .i64 (gt m.O j).agent,.int .i64 (gt m.O j).life,.int .i64 (gt m.O j).count] 26)).mono hsz))
   have HNo:Hid (ver1 d (gt m.O j)=true→appE m d=8):=Jh fun hh=>appE_ref (by rw [HD2.out];exact if_pos (any_yes (p:=ver1 d) hlt hh)) (by decide)
   have HY:=Jh (fun hh=>any_step (p:=ver1 d) HF.out hh)
   have HX:Hid (ver1 d (gt m.O j)=(decide ((gt m.O j).agent=d.by_.agent)&&(decide (d.by_.life<(gt m.O j).life)||(decide ((gt m.O j).life=d.by_.life)&&decide (d.by_.count≤(gt m.O j).count))))):=Jh rfl
   clear hr HF
   generalize gt m.O j=x at *
   by_cases e0:x.agent=d.by_.agent
   ·have f0:(x.agent == d.by_.agent)=true:=eqt e0
    by_cases e1:d.by_.life<x.life
    ·have f1:decide (d.by_.life<x.life)=true:=dct e1
     have HV:=Jh (HNo.out (by rw [HX.out,dct e0,dct e1];rfl))
     clear e0 e1 HX HNo HY
     go_wp2
     refine bodyPost_ret (results_mf rfl _ _ (w.heap.size+2) 53 #[.int .i64 0,.int .i64 0,.int .i64 0,.slice none 0 0,.slice none 0 0,.slice none 0 0] _ _ rfl rfl ((set6_blk (HZ.out _ HW3.out) _ _ _ _ _ _).alloc _) Tryz.underlying53 rfl (by kernel_rfl)) rfl ?_
     exact ret_err HV.out (by decide) (set6_alloc hb00 (by omega) hb00.size _ _ _ _ _ _ _)
    have f1:decide (d.by_.life<x.life)=false:=dcf e1
    by_cases e2:x.life=d.by_.life
    ·have f2:(x.life == d.by_.life)=true:=eqt e2
     by_cases e3:d.by_.count≤x.count
     ·have f3:decide (d.by_.count≤x.count)=true:=dct e3
      have HV:=Jh (HNo.out (by rw [HX.out,dct e0,dct e2,dct e3,Bool.and_true,Bool.or_true];rfl))
      clear e0 e1 e2 e3 HX HNo HY
      go_wp2
      refine bodyPost_ret (results_mf rfl _ _ (w.heap.size+2) 53 #[.int .i64 0,.int .i64 0,.int .i64 0,.slice none 0 0,.slice none 0 0,.slice none 0 0] _ _ rfl rfl ((set6_blk (HZ.out _ HW3.out) _ _ _ _ _ _).alloc _) Tryz.underlying53 rfl (by kernel_rfl)) rfl ?_
      exact ret_err HV.out (by decide) (set6_alloc hb00 (by omega) hb00.size _ _ _ _ _ _ _)
     have f3:decide (d.by_.count≤x.count)=false:=dcf e3
     have HY2:=Jh (HY.out (by rw [HX.out,dcf e1,dcf e3,Bool.and_false,Bool.or_false,Bool.and_false]))
     clear e0 e1 e2 e3 HX HNo HY
     go_wp2
     go_roundw
     case rel=>exact ⟨j+1,by omega,by go_num,HY2,HE⟩
     case measure=>simp [intOf];omega
    have f2:(x.life == d.by_.life)=false:=eqf e2
    have HY2:=Jh (HY.out (by rw [HX.out,dcf e1,dcf e2,Bool.false_and,Bool.or_false,Bool.and_false]))
    clear e0 e1 e2 HX HNo HY
    go_wp2
    go_roundw
    case rel=>exact ⟨j+1,by omega,by go_num,HY2,HE⟩
    case measure=>simp [intOf];omega
   have f0:(x.agent == d.by_.agent)=false:=eqf e0
   have HY2:=Jh (HY.out (by rw [HX.out,dcf e0,Bool.false_and]))
   clear e0 HX HNo HY
   go_wp2
   go_roundw
   case rel=>exact ⟨j+1,by omega,by go_num,HY2,HE⟩
   case measure=>simp [intOf];omega
  obtain rfl:j=m.O.length:=by omega
  have hv:verB m d=false:=any_no HF.out
  have HD3:Hid (refE m d=if dupB m d=true then 12 else if lostB m d=true then 17 else if fenB m d=true then 11 else if exiB m d=true then 18 else if m.gen=1099511627775 then 2 else 0):=Jh (by rw [HD2.out,if_neg (by rw [hv];decide)])
  have HVer:=Jh hv
  clear HD2 HF HRO hv
  go_wp2
  go_loopw [81] (fun i wr=>∃ j:Nat,j≤d.marks.length∧i=.int .i64 (j:Int)∧Hid (∀ i,i<j→(dup1 m) (gt d.marks i)=false)∧Hid (Below (w.heap.size+3) wm wr)) (fun i _=>d.marks.length-(intOf i).toNat)
  case atStart=>exact ⟨0,Nat.zero_le _,rfl,Jh (fun i hi=>absurd hi (Nat.not_lt_zero i)),HW3⟩
  case round =>
   obtain ⟨j,hj,rfl,HF,HW4⟩:=hrel
   clear HW3
   have HW3:=HW4
   clear HW4
   clear s0 s1 s2 s3 s4 s5 t0 t1 t2 t3 t4 t5 t6 t7 z0 z1 z2 z3 z4 z5 y0 y1 y2 y3 y4 y5 hb00 hsz hg0 hg1 hg2 HGS
   obtain ⟨hb00,hsz⟩:=HB0.out wr HW3.out
   have HGS:=Jh hsz
   obtain ⟨⟨⟨s0,s1,s2,s3,s4,s5⟩,⟨t0,t1,t2,t3,t4,t5,t6,t7⟩⟩,⟨⟨z0,z1,z2,z3,z4,z5⟩,⟨y0,y1,y2,y3,y4,y5⟩⟩⟩:=HT.out wr HW3.out
   have hg0:w.heap.size<wr.heap.size:=by omega
   have hg1:w.heap.size+1<wr.heap.size:=by omega
   have hg2:w.heap.size+2<wr.heap.size:=by omega
   by_cases hlt:j<d.marks.length
   ·have hr:=HRM.out wr hb00
    obtain ⟨b,off,rfl,hbB⟩:=row_addr hr (by omega)
    obtain ⟨p0,p1⟩:wr.cell? ⟨b,off+j*2,none⟩=some (.int .i64 (gt d.marks j).maker)∧wr.cell? ⟨b,off+j*2+1,none⟩=some (.int .i64 (gt d.marks j).seq):=⟨row_cell mcs_len hr hlt (j:=0) rfl,row_cell mcs_len hr hlt (j:=1) rfl⟩
    have HB1:=Jh ((Below.refl wr.heap.size wr).alloc (Nat.le_refl _) (.cells #[.int .i64 (gt d.marks j).maker,.int .i64 (gt d.marks j).seq] 90))
    have HW4:=Jh fun W (hW:Below (wr.heap.size+1) (wr.alloc (.cells #[.int .i64 (gt d.marks j).maker,.int .i64 (gt d.marks j).seq] 90)) W)=>HW3.out.trans ((HB1.out.trans (hW.mono (by omega))).mono hsz)
    have HBL:Hid (∀ W,Below (wr.heap.size+1) (wr.alloc (.cells #[.int .i64 (gt d.marks j).maker,.int .i64 (gt d.marks j).seq] 90)) W→(W.cell? ⟨wr.heap.size,0,none⟩=some (.int .i64 (gt d.marks j).maker)∧W.cell? ⟨wr.heap.size,1,none⟩=some (.int .i64 (gt d.marks j).seq))∧W.cell? ⟨w.heap.size,0,none⟩=some (.int .i64 m.gen)∧W.cell? ⟨w.heap.size,1,none⟩=some (.int .i64 m.cut)∧W.cell? ⟨w.heap.size,2,none⟩=some (.int .i64 m.fence)∧W.cell? ⟨w.heap.size,3,none⟩=some (.slice (Pl.mk AE cE AM cM AO cO).AE m.E.length (Pl.mk AE cE AM cM AO cO).cE)∧W.cell? ⟨w.heap.size,4,none⟩=some (.slice (Pl.mk AE cE AM cM AO cO).AM m.M.length (Pl.mk AE cE AM cM AO cO).cM)∧W.cell? ⟨w.heap.size,5,none⟩=some (.slice (Pl.mk AE cE AM cM AO cO).AO m.O.length (Pl.mk AE cE AM cM AO cO).cO)):=Jh fun W hW=>by
     have hb:=(Blk.new wr 90 #[.int .i64 (gt d.marks j).maker,.int .i64 (gt d.marks j).seq]).below hW (Nat.lt_succ_self _)
     exact ⟨⟨hb.cell 0,hb.cell 1⟩,(HT.out W (HW4.out W hW)).1.1⟩
    have HC:=Jh fun W (hW:Below (wr.heap.size+1) (wr.alloc (.cells #[.int .i64 (gt d.marks j).maker,.int .i64 (gt d.marks j).seq] 90)) W)=>HSq.out W (hb00.trans ((HB1.out.trans (hW.mono (by omega))).mono (by omega))) (gt d.marks j).maker
    have HZW:=Jh fun W (hW:Below (wr.heap.size+1) (wr.alloc (.cells #[.int .i64 (gt d.marks j).maker,.int .i64 (gt d.marks j).seq] 90)) W)=>(HT.out W (HW4.out W hW)).2
    have HNo:Hid (dup1 m (gt d.marks j)=true→appE m d=12):=Jh fun hh=>appE_ref (by rw [HD3.out];exact if_pos (any_yes (p:=dup1 m) hlt hh)) (by decide)
    have HY:=Jh (fun hh=>any_step (p:=dup1 m) HF.out hh)
    have HX:Hid (dup1 m (gt d.marks j)=decide ((gt d.marks j).seq≤seqL (gt d.marks j).maker m.M)):=Jh rfl
    clear hr HF
    dsimp only at HBL
    generalize gt d.marks j=x at *
    generalize seqL x.maker m.M=s at *
    by_cases e0:x.seq≤s
    ·have f0:decide (x.seq≤s)=true:=dct e0
     have HV:=Jh (HNo.out (by rw [HX.out,dct e0]))
     clear e0 HX HNo HY
     go_wp2_with fail
     refine wp_region_T 99 (fun w'=>(w'.cell? ⟨wr.heap.size,0,none⟩=some (.int .i64 x.maker)∧w'.cell? ⟨wr.heap.size,1,none⟩=some (.int .i64 x.seq))∧w'.cell? ⟨w.heap.size,0,none⟩=some (.int .i64 m.gen)∧w'.cell? ⟨w.heap.size,1,none⟩=some (.int .i64 m.cut)∧w'.cell? ⟨w.heap.size,2,none⟩=some (.int .i64 m.fence)∧w'.cell? ⟨w.heap.size,3,none⟩=some (.slice (Pl.mk AE cE AM cM AO cO).AE m.E.length (Pl.mk AE cE AM cM AO cO).cE)∧w'.cell? ⟨w.heap.size,4,none⟩=some (.slice (Pl.mk AE cE AM cM AO cO).AM m.M.length (Pl.mk AE cE AM cM AO cO).cM)∧w'.cell? ⟨w.heap.size,5,none⟩=some (.slice (Pl.mk AE cE AM cM AO cO).AO m.O.length (Pl.mk AE cE AM cM AO cO).cO)) (by kernel_rfl) (HBL.out _ (below_drewN_ (Below.refl _ _) 1)) (fun hHeld=>?_)
     dsimp only at hHeld
     apply tkT 0
     apply tkT 1
     apply tkT 2
     apply tkT 3
     apply tkT 4
     refine wpAnyT_one (i:=5) (by kernel_rfl) rfl (fun K hK=>?_);go_simp
     refine (HC.out _ (below_drewN_ (Below.refl _ _) 1)).mono ?_
     rintro e wa ⟨rfl,hba⟩
     have hea0:Below (wr.heap.size+1) (wr.alloc (.cells #[.int .i64 x.maker,.int .i64 x.seq] 90)) wa:=(below_drewN_ (Below.refl _ _) 1).trans (hba.mono (by simp [World.drew]))
     have HE:=Jh (HW4.out _ hea0)
     have hHa:=HBL.out _ hea0
     refine hK.out _ _ (fun _=>hHa) ?_
     clear hK K hHeld hba
     apply tkT 6
     refine wpAnyT_done (by kernel_rfl) ?_ _
     obtain ⟨⟨l0,l1,l2,l3,l4,l5⟩,⟨k0,k1,k2,k3,k4,k5⟩⟩:=HZW.out _ hea0
     go_wp2
     refine bodyPost_ret (results_mf rfl _ _ (w.heap.size+2) 53 #[.int .i64 0,.int .i64 0,.int .i64 0,.slice none 0 0,.slice none 0 0,.slice none 0 0] _ _ rfl rfl (set6_blk (HZ.out _ HE.out) _ _ _ _ _ _) Tryz.underlying53 rfl (by kernel_rfl)) rfl ?_
     exact ret_err HV.out (by decide) (set6_below (HB0.out _ HE.out).1 (by omega) _ _ _ _ _ _)
    have f0:decide (x.seq≤s)=false:=dcf e0
    have HY2:=Jh (HY.out (by rw [HX.out,dcf e0]))
    clear e0 HX HNo HY
    go_wp2_with fail
    refine wp_region_T 99 (fun w'=>(w'.cell? ⟨wr.heap.size,0,none⟩=some (.int .i64 x.maker)∧w'.cell? ⟨wr.heap.size,1,none⟩=some (.int .i64 x.seq))∧w'.cell? ⟨w.heap.size,0,none⟩=some (.int .i64 m.gen)∧w'.cell? ⟨w.heap.size,1,none⟩=some (.int .i64 m.cut)∧w'.cell? ⟨w.heap.size,2,none⟩=some (.int .i64 m.fence)∧w'.cell? ⟨w.heap.size,3,none⟩=some (.slice (Pl.mk AE cE AM cM AO cO).AE m.E.length (Pl.mk AE cE AM cM AO cO).cE)∧w'.cell? ⟨w.heap.size,4,none⟩=some (.slice (Pl.mk AE cE AM cM AO cO).AM m.M.length (Pl.mk AE cE AM cM AO cO).cM)∧w'.cell? ⟨w.heap.size,5,none⟩=some (.slice (Pl.mk AE cE AM cM AO cO).AO m.O.length (Pl.mk AE cE AM cM AO cO).cO)) (by kernel_rfl) (HBL.out _ (below_drewN_ (Below.refl _ _) 1)) (fun hHeld=>?_)
    dsimp only at hHeld
    apply tkT 0
    apply tkT 1
    apply tkT 2
    apply tkT 3
    apply tkT 4
    refine wpAnyT_one (i:=5) (by kernel_rfl) rfl (fun K hK=>?_);go_simp
    refine (HC.out _ (below_drewN_ (Below.refl _ _) 1)).mono ?_
    rintro e wa ⟨rfl,hba⟩
    have hea0:Below (wr.heap.size+1) (wr.alloc (.cells #[.int .i64 x.maker,.int .i64 x.seq] 90)) wa:=(below_drewN_ (Below.refl _ _) 1).trans (hba.mono (by simp [World.drew]))
    have HE:=Jh (HW4.out _ hea0)
    have hHa:=HBL.out _ hea0
    refine hK.out _ _ (fun _=>hHa) ?_
    clear hK K hHeld hba
    apply tkT 6
    refine wpAnyT_done (by kernel_rfl) ?_ _
    go_wp2
    go_roundw
    case rel=>exact ⟨j+1,by omega,by go_num,HY2,HE⟩
    case measure=>simp [intOf];omega
   obtain rfl:j=d.marks.length:=by omega
   have hv:dupB m d=false:=any_no HF.out
   have HD4:Hid (refE m d=if lostB m d=true then 17 else if fenB m d=true then 11 else if exiB m d=true then 18 else if m.gen=1099511627775 then 2 else 0):=Jh (by rw [HD3.out,if_neg (by rw [hv];decide)])
   have HDup:=Jh hv
   clear HD3 HF HSq hv
   have hmm:=@run_makeMap Tryz.prog
   go_wp2
   have HM1:=Jh (MapAt.new kS enV wr)
   have HW5:Hid (Below (w.heap.size+3) wm (wr.alloc (.map #[] 0))):=Jh (HW3.out.alloc (by omega) _)
   have hz5:wr.heap.size<(wr.alloc (.map #[] 0)).heap.size:=by simp
   have hgm:w.heap.size+3≤wr.heap.size:=hsz
   clear HW3 hb00 hsz hg0 hg1 hg2 HGS hmm s0 s1 s2 s3 s4 s5 t0 t1 t2 t3 t4 t5 t6 t7 z0 z1 z2 z3 z4 z5 y0 y1 y2 y3 y4 y5
   generalize wr.alloc (.map #[] 0)=w5 at *
   generalize wr.heap.size=gm at *
   go_loopw [98] (fun i wr=>∃ (j:Nat) (M:List (ByteArray × En)),j≤m.E.length∧i=.int .i64 (j:Int)∧Hid (MapAt kS enV wr gm M)∧Hid (MpIs M fun y=>y∈m.E.take j)∧M.length≤j∧Hid (Below (w.heap.size+3) wm wr)∧gm<wr.heap.size) (fun i _=>m.E.length-(intOf i).toNat)
   case atStart=>exact ⟨0,[],Nat.zero_le _,rfl,HM1,Jh (MpIs.nil.imp fun x=>by simp),Nat.le_refl _,HW5,hz5⟩
   case round =>
    clear HM1 HW5 hz5
    obtain ⟨j,M,hj,rfl,HMM,HMp,hML,HW3,hz⟩:=hrel
    obtain ⟨hb00,hsz⟩:=HB0.out wr HW3.out
    obtain ⟨⟨⟨s0,s1,s2,s3,s4,s5⟩,⟨t0,t1,t2,t3,t4,t5,t6,t7⟩⟩,⟨⟨z0,z1,z2,z3,z4,z5⟩,⟨y0,y1,y2,y3,y4,y5⟩⟩⟩:=HT.out wr HW3.out
    by_cases hlt:j<m.E.length
    ·have hr:=HRE.out wr hb00
     obtain ⟨b,off,rfl,hbB⟩:=row_addr hr (by omega)
     obtain ⟨p0,p1,p2,p3,p4,p5,p6,p7,p8⟩:wr.cell? ⟨b,off+j*9,none⟩=some (.string (gt m.E j).key)∧wr.cell? ⟨b,off+j*9+1,none⟩=some (.int .i64 (gt m.E j).window)∧wr.cell? ⟨b,off+j*9+2,none⟩=some (.string (gt m.E j).part)∧wr.cell? ⟨b,off+j*9+3,none⟩=some (.int .i64 (gt m.E j).first)∧wr.cell? ⟨b,off+j*9+4,none⟩=some (.int .i64 (gt m.E j).last)∧wr.cell? ⟨b,off+j*9+5,none⟩=some (.int .i64 (gt m.E j).rows)∧wr.cell? ⟨b,off+j*9+6,none⟩=some (.int .i64 (gt m.E j).size)∧wr.cell? ⟨b,off+j*9+7,none⟩=some (.int .u32 (gt m.E j).sum)∧wr.cell? ⟨b,off+j*9+8,none⟩=some (.int .i64 (gt m.E j).born):=⟨row_cell ecs_len hr hlt (j:=0) rfl,row_cell ecs_len hr hlt (j:=1) rfl,row_cell ecs_len hr hlt (j:=2) rfl,row_cell ecs_len hr hlt (j:=3) rfl,row_cell ecs_len hr hlt (j:=4) rfl,row_cell ecs_len hr hlt (j:=5) rfl,row_cell ecs_len hr hlt (j:=6) rfl,row_cell ecs_len hr hlt (j:=7) rfl,row_cell ecs_len hr hlt (j:=8) rfl⟩
     have HOK:Hid (kS.ok (gt m.E j).key):=Jh (HKE.out _ (gt_mem hlt))
     have HY:Hid (MpIs (mput kS.lt M (gt m.E j).key (gt m.E j)) fun y=>y∈m.E.take (j+1)):=Jh ((HMp.out.put (gt m.E j) (key_new HNE.out hlt)).imp fun y=>by rw [take_gt hlt,List.mem_append,List.mem_singleton])
     have hpl:=mput_le (M:=M) (gt m.E j).key (gt m.E j)
     have HW4:Hid (Below (w.heap.size+3) wm (wr.alloc (.cells #[.string (gt m.E j).key,.int .i64 (gt m.E j).window,.string (gt m.E j).part,.int .i64 (gt m.E j).first,.int .i64 (gt m.E j).last,.int .i64 (gt m.E j).rows,.int .i64 (gt m.E j).size,.int .u32 (gt m.E j).sum,.int .i64 (gt m.E j).born] 85))):=Jh (HW3.out.alloc hsz _)
     clear hr HMp
     generalize gt m.E j=x at *
     go_wp2_with (at_mapUpdate;go_must (refine wpList_put _ rfl _ _ _ rfl (HMM.out.alloc _) HU.out x.key x rfl rfl rfl HOK.out (by unfold maxLen;omega) ?_))
     intro w2 hm2 hg2 hs2
     have HMM2:=Jh hm2
     have HW2:Hid (Below (w.heap.size+3) wm w2):=Jh (HW4.out.grown hg2 (by simp;omega) (by intro g hg;injection hg with hg;omega))
     have hz2:gm<w2.heap.size:=by first|omega|(rw [hs2];simp;omega)
     have hl2:(mput kS.lt M x.key x).length≤j+1:=by omega
     clear hm2 hg2 hs2 hpl
     go_wp2
     go_roundw
     case rel=>exact ⟨j+1,_,by omega,by go_num,HMM2,HY,hl2,HW2,hz2⟩
     case measure=>simp [intOf];omega
    obtain rfl:j=m.E.length:=by omega
    have HMq:Hid (MpIs M fun y=>y∈m.E∧y.key∉d.drop.take 0):=Jh (HMp.out.imp fun y=>by rw [List.take_length];simp)
    clear HMp HRE HNE
    go_wp2
    go_loopw [110] (fun i wr=>∃ (j:Nat) (M:List (ByteArray × En)),j≤d.drop.length∧i=.int .i64 (j:Int)∧Hid (MapAt kS enV wr gm M)∧Hid (MpIs M fun y=>y∈m.E∧y.key∉d.drop.take j)∧M.length≤m.E.length∧Hid (∀ i,i<j→lost1 m (gt d.drop i)=false)∧Hid (Below (w.heap.size+3) wm wr)∧gm<wr.heap.size) (fun i _=>d.drop.length-(intOf i).toNat)
    case atStart=>exact ⟨0,M,Nat.zero_le _,rfl,HMM,HMq,hML,Jh (fun i hi=>absurd hi (Nat.not_lt_zero i)),HW3,hz⟩
    case round =>
     clear HMM HMq HW3 hz hML hb00 hsz s0 s1 s2 s3 s4 s5 t0 t1 t2 t3 t4 t5 t6 t7 z0 z1 z2 z3 z4 z5 y0 y1 y2 y3 y4 y5
     obtain ⟨j,M,hj,rfl,HMM,HMp,hML,HF,HW3,hz⟩:=hrel
     obtain ⟨hb00,hsz⟩:=HB0.out wr HW3.out
     obtain ⟨⟨⟨s0,s1,s2,s3,s4,s5⟩,⟨t0,t1,t2,t3,t4,t5,t6,t7⟩⟩,⟨⟨z0,z1,z2,z3,z4,z5⟩,⟨y0,y1,y2,y3,y4,y5⟩⟩⟩:=HT.out wr HW3.out
     have hg2:w.heap.size+2<wr.heap.size:=by omega
     by_cases hlt:j<d.drop.length
     ·have hr:=HRD.out wr hb00
      obtain ⟨b,off,rfl,hbB⟩:=row_addr hr (by omega)
      have p0:=strs_cell hr hlt
      have HOK:Hid (kS.ok (gt d.drop j)):=Jh (HDs.out _ (gt_mem hlt))
      have HNo:Hid (lost1 m (gt d.drop j)=true→appE m d=17):=Jh fun hh=>appE_ref (by rw [HD4.out];exact if_pos (any_yes (p:=lost1 m) hlt hh)) (by decide)
      have HY:=Jh (fun hh=>any_step (p:=lost1 m) HF.out hh)
      have HNn:Hid (mget M (gt d.drop j)=none→lost1 m (gt d.drop j)=true):=Jh fun hn=>by
       unfold lost1
       rw [Bool.not_eq_true',← Bool.not_eq_true,hasK_iff]
       rintro ⟨x,hx,hk⟩
       exact HMp.out.none_ hn x ⟨hx,by rw [hk];exact drop_new HND.out hlt⟩ hk
      have HNs:Hid (∀ x,mget M (gt d.drop j)=some x→lost1 m (gt d.drop j)=false):=Jh fun x hx=>by
       unfold lost1
       rw [Bool.not_eq_false',hasK_iff]
       obtain ⟨e,h1,_⟩:=HMp.out.some_ hx
       exact ⟨x,h1,e⟩
      have HMd:Hid (MpIs (mdel M (gt d.drop j)) fun y=>y∈m.E∧y.key∉d.drop.take (j+1)):=Jh ((HMp.out.del (gt d.drop j)).imp fun y=>by
       rw [take_gt hlt,List.mem_append,List.mem_singleton,not_or,and_assoc])
      have hdl:=mdel_le (M:=M) (gt d.drop j)
      clear hr HF HMp
      generalize gt d.drop j=x at *
      cases hg:mget M x with
      | none =>
       have HE0:Hid ((mget M x).elim (.agg #[.string .empty,.int .i64 0,.string .empty,.int .i64 0,.int .i64 0,.int .i64 0,.int .i64 0,.int .u32 0,.int .i64 0]) enV=.agg #[.string .empty,.int .i64 0,.string .empty,.int .i64 0,.int .i64 0,.int .i64 0,.int .i64 0,.int .u32 0,.int .i64 0]):=Jh (by rw [hg];rfl)
       have HS0:Hid ((mget M x).isSome=false):=Jh (by rw [hg];rfl)
       have HV:=Jh (HNo.out (HNn.out hg))
       have HE:Hid (Below (w.heap.size+3) wm (wr.alloc (.cells #[.string .empty,.int .i64 0,.string .empty,.int .i64 0,.int .i64 0,.int .i64 0,.int .i64 0,.int .u32 0,.int .i64 0] 85))):=Jh (HW3.out.alloc hsz _)
       clear hg HNo HNn HNs HMd HY
       have hlk:(Instr.lookup 158 (.map (some gm)) (.string x) true).run Tryz.prog wr=.ok (.tuple #[.agg #[.string .empty,.int .i64 0,.string .empty,.int .i64 0,.int .i64 0,.int .i64 0,.int .i64 0,.int .u32 0,.int .i64 0],.bool false]) wr:=HMM.out.ask_at HU.out (zEn _) HOK.out HE0.out HS0.out
       go_wp2
       refine bodyPost_ret (results_mf rfl _ _ (w.heap.size+2) 53 #[.int .i64 0,.int .i64 0,.int .i64 0,.slice none 0 0,.slice none 0 0,.slice none 0 0] _ _ rfl rfl ((set6_blk (HZ.out _ HW3.out) _ _ _ _ _ _).alloc _) Tryz.underlying53 rfl (by kernel_rfl)) rfl ?_
       exact ret_err HV.out (by decide) (set6_alloc hb00 (by omega) hb00.size _ _ _ _ _ _ _)
      | some y =>
       have HE0:Hid ((mget M x).elim (.agg #[.string .empty,.int .i64 0,.string .empty,.int .i64 0,.int .i64 0,.int .i64 0,.int .i64 0,.int .u32 0,.int .i64 0]) enV=.agg #[.string y.key,.int .i64 y.window,.string y.part,.int .i64 y.first,.int .i64 y.last,.int .i64 y.rows,.int .i64 y.size,.int .u32 y.sum,.int .i64 y.born]):=Jh (by rw [hg];rfl)
       have HS0:Hid ((mget M x).isSome=true):=Jh (by rw [hg];rfl)
       have HY2:=Jh (HY.out (HNs.out y hg))
       have HW4:Hid (Below (w.heap.size+3) wm (wr.alloc (.cells #[.string y.key,.int .i64 y.window,.string y.part,.int .i64 y.first,.int .i64 y.last,.int .i64 y.rows,.int .i64 y.size,.int .u32 y.sum,.int .i64 y.born] 85))):=Jh (HW3.out.alloc hsz _)
       obtain ⟨w5,hrun,hm5,hg5,hs5⟩:=(HMM.out.alloc (.cells #[.string y.key,.int .i64 y.window,.string y.part,.int .i64 y.first,.int .i64 y.last,.int .i64 y.rows,.int .i64 y.size,.int .u32 y.sum,.int .i64 y.born] 85)).del_run HU.out HOK.out 0
       have HMM5:=Jh hm5
       have HW5:Hid (Below (w.heap.size+3) wm w5):=Jh (HW4.out.grown hg5 (by simp;omega) (by intro g hg;injection hg with hg;omega))
       have hz5:gm<w5.heap.size:=by first|omega|(rw [hs5];simp;omega)
       have hl5:(mdel M x).length≤m.E.length:=by omega
       have hrun2:(Builtin.delete_ #[158,9] 0 #[.map (some gm),.string x]).run Tryz.prog (wr.alloc (.cells #[.string y.key,.int .i64 y.window,.string y.part,.int .i64 y.first,.int .i64 y.last,.int .i64 y.rows,.int .i64 y.size,.int .u32 y.sum,.int .i64 y.born] 85))=.ok (.tuple #[]) w5:=hrun
       clear hg HNo HNn HNs HY hrun hm5 hg5 hs5
       have hlk:(Instr.lookup 158 (.map (some gm)) (.string x) true).run Tryz.prog wr=.ok (.tuple #[.agg #[.string y.key,.int .i64 y.window,.string y.part,.int .i64 y.first,.int .i64 y.last,.int .i64 y.rows,.int .i64 y.size,.int .u32 y.sum,.int .i64 y.born],.bool true]) wr:=HMM.out.ask_at HU.out (zEn _) HOK.out HE0.out HS0.out
       go_wp2
       go_roundw
       case rel=>exact ⟨j+1,_,by omega,by go_num,HMM5,HMd,hl5,HY2,HW5,hz5⟩
       case measure=>simp [intOf];omega
     obtain rfl:j=d.drop.length:=by omega
     have hv:lostB m d=false:=any_no HF.out
     have HD5:Hid (refE m d=if fenB m d=true then 11 else if exiB m d=true then 18 else if m.gen=1099511627775 then 2 else 0):=Jh (by rw [HD4.out,if_neg (by rw [hv];decide)])
     have HLost:=Jh hv
     have HMq:Hid (MpIs M fun y=>y∈m.E∧y.key∉d.drop):=Jh (HMp.out.imp fun y=>by rw [List.take_length])
     clear HD4 HF HMp HRD HDs HND hv
     have hmx:=fun ats ty W=>max_run (P:=Tryz.prog) ats ty m.fence d.fence W
     have HFx:=Jh (fen1_max m d)
     generalize maxI m.fence d.fence=mf at *
     go_wp2
     go_loopw [129] (fun i wr=>∃ j:Nat,j≤d.add.length∧i=.int .i64 (j:Int)∧Hid (∀ i,i<j→(fen1 m d) (gt d.add i)=false)∧Hid (MapAt kS enV wr gm M)∧Hid (Below (w.heap.size+3) wm wr)∧gm<wr.heap.size) (fun i _=>d.add.length-(intOf i).toNat)
     case atStart=>exact ⟨0,Nat.zero_le _,rfl,Jh (fun i hi=>absurd hi (Nat.not_lt_zero i)),HMM,HW3,hz⟩
     case round =>
      clear HMM HW3 hz hb00 hsz hg2 s0 s1 s2 s3 s4 s5 t0 t1 t2 t3 t4 t5 t6 t7 z0 z1 z2 z3 z4 z5 y0 y1 y2 y3 y4 y5
      obtain ⟨j,hj,rfl,HF,HMM,HW3,hz⟩:=hrel
      obtain ⟨hb00,hsz⟩:=HB0.out wr HW3.out
      obtain ⟨⟨⟨s0,s1,s2,s3,s4,s5⟩,⟨t0,t1,t2,t3,t4,t5,t6,t7⟩⟩,⟨⟨z0,z1,z2,z3,z4,z5⟩,⟨y0,y1,y2,y3,y4,y5⟩⟩⟩:=HT.out wr HW3.out
      have hg0:w.heap.size<wr.heap.size:=by omega
      have hg1:w.heap.size+1<wr.heap.size:=by omega
      have hg2:w.heap.size+2<wr.heap.size:=by omega
      by_cases hlt:j<d.add.length
      ·have hr:=HRA.out wr hb00
       obtain ⟨b,off,rfl,hbB⟩:=row_addr hr (by omega)
       obtain ⟨p0,p1,p2,p3,p4,p5,p6,p7,p8⟩:wr.cell? ⟨b,off+j*9,none⟩=some (.string (gt d.add j).key)∧wr.cell? ⟨b,off+j*9+1,none⟩=some (.int .i64 (gt d.add j).window)∧wr.cell? ⟨b,off+j*9+2,none⟩=some (.string (gt d.add j).part)∧wr.cell? ⟨b,off+j*9+3,none⟩=some (.int .i64 (gt d.add j).first)∧wr.cell? ⟨b,off+j*9+4,none⟩=some (.int .i64 (gt d.add j).last)∧wr.cell? ⟨b,off+j*9+5,none⟩=some (.int .i64 (gt d.add j).rows)∧wr.cell? ⟨b,off+j*9+6,none⟩=some (.int .i64 (gt d.add j).size)∧wr.cell? ⟨b,off+j*9+7,none⟩=some (.int .u32 (gt d.add j).sum)∧wr.cell? ⟨b,off+j*9+8,none⟩=some (.int .i64 (gt d.add j).born):=⟨row_cell ecs_len hr hlt (j:=0) rfl,row_cell ecs_len hr hlt (j:=1) rfl,row_cell ecs_len hr hlt (j:=2) rfl,row_cell ecs_len hr hlt (j:=3) rfl,row_cell ecs_len hr hlt (j:=4) rfl,row_cell ecs_len hr hlt (j:=5) rfl,row_cell ecs_len hr hlt (j:=6) rfl,row_cell ecs_len hr hlt (j:=7) rfl,row_cell ecs_len hr hlt (j:=8) rfl⟩
       have HE:Hid (Below (w.heap.size+3) wm (wr.alloc (.cells #[.string (gt d.add j).key,.int .i64 (gt d.add j).window,.string (gt d.add j).part,.int .i64 (gt d.add j).first,.int .i64 (gt d.add j).last,.int .i64 (gt d.add j).rows,.int .i64 (gt d.add j).size,.int .u32 (gt d.add j).sum,.int .i64 (gt d.add j).born] 85))):=Jh (HW3.out.alloc hsz _)
       have HM2:=Jh (HMM.out.alloc (.cells #[.string (gt d.add j).key,.int .i64 (gt d.add j).window,.string (gt d.add j).part,.int .i64 (gt d.add j).first,.int .i64 (gt d.add j).last,.int .i64 (gt d.add j).rows,.int .i64 (gt d.add j).size,.int .u32 (gt d.add j).sum,.int .i64 (gt d.add j).born] 85))
       have hz2:gm<(wr.alloc (.cells #[.string (gt d.add j).key,.int .i64 (gt d.add j).window,.string (gt d.add j).part,.int .i64 (gt d.add j).first,.int .i64 (gt d.add j).last,.int .i64 (gt d.add j).rows,.int .i64 (gt d.add j).size,.int .u32 (gt d.add j).sum,.int .i64 (gt d.add j).born] 85)).heap.size:=by simp;omega
       have HNo:Hid (fen1 m d (gt d.add j)=true→appE m d=11):=Jh fun hh=>appE_ref (by rw [HD5.out];exact if_pos (any_yes (p:=fen1 m d) hlt hh)) (by decide)
       have HY:=Jh (fun hh=>any_step (p:=fen1 m d) HF.out hh)
       have HX:=Jh (HFx.out (gt d.add j))
       clear hr HF
       generalize gt d.add j=x at *
       by_cases e0:x.born<mf
       ·have f0:decide (x.born<mf)=true:=dct e0
        have HV:=Jh (HNo.out (by rw [HX.out,dct e0]))
        clear e0 HX HNo HY hz2 HM2
        go_wp2
        refine bodyPost_ret (results_mf rfl _ _ (w.heap.size+2) 53 #[.int .i64 0,.int .i64 0,.int .i64 0,.slice none 0 0,.slice none 0 0,.slice none 0 0] _ _ rfl rfl ((set6_blk (HZ.out _ HW3.out) _ _ _ _ _ _).alloc _) Tryz.underlying53 rfl (by kernel_rfl)) rfl ?_
        exact ret_err HV.out (by decide) (set6_alloc hb00 (by omega) hb00.size _ _ _ _ _ _ _)
       have f0:decide (x.born<mf)=false:=dcf e0
       have HY2:=Jh (HY.out (by rw [HX.out,dcf e0]))
       clear e0 HX HNo HY
       go_wp2
       go_roundw
       case rel=>exact ⟨j+1,by omega,by go_num,HY2,HM2,HE,hz2⟩
       case measure=>simp [intOf];omega
      obtain rfl:j=d.add.length:=by omega
      have hv:fenB m d=false:=any_no HF.out
      have HD6:Hid (refE m d=if exiB m d=true then 18 else if m.gen=1099511627775 then 2 else 0):=Jh (by rw [HD5.out,if_neg (by rw [hv];decide)])
      have HFen:=Jh hv
      clear HD5 HF hv HFx hmx mf
      go_wp2
      go_loopw [146] (fun i wr=>∃ j:Nat,j≤d.add.length∧i=.int .i64 (j:Int)∧Hid (∀ i,i<j→(exi1 m d) (gt d.add i)=false)∧Hid (MapAt kS enV wr gm M)∧Hid (Below (w.heap.size+3) wm wr)∧gm<wr.heap.size) (fun i _=>d.add.length-(intOf i).toNat)
      case atStart=>exact ⟨0,Nat.zero_le _,rfl,Jh (fun i hi=>absurd hi (Nat.not_lt_zero i)),HMM,HW3,hz⟩
      case round =>
       clear HMM HW3 hz hb00 hsz hg0 hg1 hg2 s0 s1 s2 s3 s4 s5 t0 t1 t2 t3 t4 t5 t6 t7 z0 z1 z2 z3 z4 z5 y0 y1 y2 y3 y4 y5
       obtain ⟨j,hj,rfl,HF,HMM,HW3,hz⟩:=hrel
       obtain ⟨hb00,hsz⟩:=HB0.out wr HW3.out
       obtain ⟨⟨⟨s0,s1,s2,s3,s4,s5⟩,⟨t0,t1,t2,t3,t4,t5,t6,t7⟩⟩,⟨⟨z0,z1,z2,z3,z4,z5⟩,⟨y0,y1,y2,y3,y4,y5⟩⟩⟩:=HT.out wr HW3.out
       have hg2:w.heap.size+2<wr.heap.size:=by omega
       by_cases hlt:j<d.add.length
       ·have hr:=HRA.out wr hb00
        obtain ⟨b,off,rfl,hbB⟩:=row_addr hr (by omega)
        obtain ⟨p0,p1,p2,p3,p4,p5,p6,p7,p8⟩:wr.cell? ⟨b,off+j*9,none⟩=some (.string (gt d.add j).key)∧wr.cell? ⟨b,off+j*9+1,none⟩=some (.int .i64 (gt d.add j).window)∧wr.cell? ⟨b,off+j*9+2,none⟩=some (.string (gt d.add j).part)∧wr.cell? ⟨b,off+j*9+3,none⟩=some (.int .i64 (gt d.add j).first)∧wr.cell? ⟨b,off+j*9+4,none⟩=some (.int .i64 (gt d.add j).last)∧wr.cell? ⟨b,off+j*9+5,none⟩=some (.int .i64 (gt d.add j).rows)∧wr.cell? ⟨b,off+j*9+6,none⟩=some (.int .i64 (gt d.add j).size)∧wr.cell? ⟨b,off+j*9+7,none⟩=some (.int .u32 (gt d.add j).sum)∧wr.cell? ⟨b,off+j*9+8,none⟩=some (.int .i64 (gt d.add j).born):=⟨row_cell ecs_len hr hlt (j:=0) rfl,row_cell ecs_len hr hlt (j:=1) rfl,row_cell ecs_len hr hlt (j:=2) rfl,row_cell ecs_len hr hlt (j:=3) rfl,row_cell ecs_len hr hlt (j:=4) rfl,row_cell ecs_len hr hlt (j:=5) rfl,row_cell ecs_len hr hlt (j:=6) rfl,row_cell ecs_len hr hlt (j:=7) rfl,row_cell ecs_len hr hlt (j:=8) rfl⟩
        have HOK:Hid (kS.ok (gt d.add j).key):=Jh (HKA.out _ (gt_mem hlt))
        have HW4:Hid (Below (w.heap.size+3) wm (wr.alloc (.cells #[.string (gt d.add j).key,.int .i64 (gt d.add j).window,.string (gt d.add j).part,.int .i64 (gt d.add j).first,.int .i64 (gt d.add j).last,.int .i64 (gt d.add j).rows,.int .i64 (gt d.add j).size,.int .u32 (gt d.add j).sum,.int .i64 (gt d.add j).born] 85))):=Jh (HW3.out.alloc hsz _)
        have HM2:=Jh (HMM.out.alloc (.cells #[.string (gt d.add j).key,.int .i64 (gt d.add j).window,.string (gt d.add j).part,.int .i64 (gt d.add j).first,.int .i64 (gt d.add j).last,.int .i64 (gt d.add j).rows,.int .i64 (gt d.add j).size,.int .u32 (gt d.add j).sum,.int .i64 (gt d.add j).born] 85))
        have hsz2:w.heap.size+3≤(wr.alloc (.cells #[.string (gt d.add j).key,.int .i64 (gt d.add j).window,.string (gt d.add j).part,.int .i64 (gt d.add j).first,.int .i64 (gt d.add j).last,.int .i64 (gt d.add j).rows,.int .i64 (gt d.add j).size,.int .u32 (gt d.add j).sum,.int .i64 (gt d.add j).born] 85)).heap.size:=by simp;omega
        have HNo:Hid (exi1 m d (gt d.add j)=true→appE m d=18):=Jh fun hh=>appE_ref (by rw [HD6.out];exact if_pos (any_yes (p:=exi1 m d) hlt hh)) (by decide)
        have HY:=Jh (fun hh=>any_step (p:=exi1 m d) HF.out hh)
        have HNn:Hid (mget M (gt d.add j).key=none→exi1 m d (gt d.add j)=false):=Jh fun hn=>by
         unfold exi1
         rw [Bool.and_eq_false_iff,Bool.not_eq_false',has_mem,← Bool.not_eq_true,hasK_iff]
         by_cases hk:(gt d.add j).key∈d.drop
         ·exact .inr hk
         ·refine .inl ?_
          rintro ⟨y,hy,he⟩
          exact HMq.out.none_ hn y ⟨hy,by rw [he];exact hk⟩ he
        have HNs:Hid (∀ y,mget M (gt d.add j).key=some y→exi1 m d (gt d.add j)=true):=Jh fun y hy=>by
         obtain ⟨e,h1,h2⟩:=HMq.out.some_ hy
         unfold exi1
         rw [Bool.and_eq_true,hasK_iff,Bool.not_eq_true',← Bool.not_eq_true,has_mem,← e]
         exact ⟨⟨y,h1,rfl⟩,h2⟩
        clear hr HF
        generalize gt d.add j=x at *
        cases hg:mget M x.key with
        | none =>
         have HE0:Hid ((mget M x.key).elim (.agg #[.string .empty,.int .i64 0,.string .empty,.int .i64 0,.int .i64 0,.int .i64 0,.int .i64 0,.int .u32 0,.int .i64 0]) enV=.agg #[.string .empty,.int .i64 0,.string .empty,.int .i64 0,.int .i64 0,.int .i64 0,.int .i64 0,.int .u32 0,.int .i64 0]):=Jh (by rw [hg];rfl)
         have HS0:Hid ((mget M x.key).isSome=false):=Jh (by rw [hg];rfl)
         have HY2:=Jh (HY.out (HNn.out hg))
         have HE:Hid (Below (w.heap.size+3) wm ((wr.alloc (.cells #[.string x.key,.int .i64 x.window,.string x.part,.int .i64 x.first,.int .i64 x.last,.int .i64 x.rows,.int .i64 x.size,.int .u32 x.sum,.int .i64 x.born] 85)).alloc (.cells #[.string .empty,.int .i64 0,.string .empty,.int .i64 0,.int .i64 0,.int .i64 0,.int .i64 0,.int .u32 0,.int .i64 0] 85))):=Jh (HW4.out.alloc hsz2 _)
         have HM3:=Jh (HM2.out.alloc (.cells #[.string .empty,.int .i64 0,.string .empty,.int .i64 0,.int .i64 0,.int .i64 0,.int .i64 0,.int .u32 0,.int .i64 0] 85))
         have hz3:gm<((wr.alloc (.cells #[.string x.key,.int .i64 x.window,.string x.part,.int .i64 x.first,.int .i64 x.last,.int .i64 x.rows,.int .i64 x.size,.int .u32 x.sum,.int .i64 x.born] 85)).alloc (.cells #[.string .empty,.int .i64 0,.string .empty,.int .i64 0,.int .i64 0,.int .i64 0,.int .i64 0,.int .u32 0,.int .i64 0] 85)).heap.size:=by simp;omega
         clear hg HNo HNn HNs HY
         have hlk:(Instr.lookup 158 (.map (some gm)) (.string x.key) true).run Tryz.prog (wr.alloc (.cells #[.string x.key,.int .i64 x.window,.string x.part,.int .i64 x.first,.int .i64 x.last,.int .i64 x.rows,.int .i64 x.size,.int .u32 x.sum,.int .i64 x.born] 85))=.ok (.tuple #[.agg #[.string .empty,.int .i64 0,.string .empty,.int .i64 0,.int .i64 0,.int .i64 0,.int .i64 0,.int .u32 0,.int .i64 0],.bool false]) (wr.alloc (.cells #[.string x.key,.int .i64 x.window,.string x.part,.int .i64 x.first,.int .i64 x.last,.int .i64 x.rows,.int .i64 x.size,.int .u32 x.sum,.int .i64 x.born] 85)):=HM2.out.ask_at HU.out (zEn _) HOK.out HE0.out HS0.out
         go_wp2
         go_roundw
         case rel=>exact ⟨j+1,by omega,by go_num,HY2,HM3,HE,hz3⟩
         case measure=>simp [intOf];omega
        | some y =>
         have HE0:Hid ((mget M x.key).elim (.agg #[.string .empty,.int .i64 0,.string .empty,.int .i64 0,.int .i64 0,.int .i64 0,.int .i64 0,.int .u32 0,.int .i64 0]) enV=.agg #[.string y.key,.int .i64 y.window,.string y.part,.int .i64 y.first,.int .i64 y.last,.int .i64 y.rows,.int .i64 y.size,.int .u32 y.sum,.int .i64 y.born]):=Jh (by rw [hg];rfl)
         have HS0:Hid ((mget M x.key).isSome=true):=Jh (by rw [hg];rfl)
         have HV:=Jh (HNo.out (HNs.out y hg))
         have HE:Hid (Below (w.heap.size+3) wm ((wr.alloc (.cells #[.string x.key,.int .i64 x.window,.string x.part,.int .i64 x.first,.int .i64 x.last,.int .i64 x.rows,.int .i64 x.size,.int .u32 x.sum,.int .i64 x.born] 85)).alloc (.cells #[.string y.key,.int .i64 y.window,.string y.part,.int .i64 y.first,.int .i64 y.last,.int .i64 y.rows,.int .i64 y.size,.int .u32 y.sum,.int .i64 y.born] 85))):=Jh (HW4.out.alloc hsz2 _)
         have hg3:w.heap.size+2<wr.heap.size+1:=by omega
         clear hg HNo HNn HNs HY
         have hlk:(Instr.lookup 158 (.map (some gm)) (.string x.key) true).run Tryz.prog (wr.alloc (.cells #[.string x.key,.int .i64 x.window,.string x.part,.int .i64 x.first,.int .i64 x.last,.int .i64 x.rows,.int .i64 x.size,.int .u32 x.sum,.int .i64 x.born] 85))=.ok (.tuple #[.agg #[.string y.key,.int .i64 y.window,.string y.part,.int .i64 y.first,.int .i64 y.last,.int .i64 y.rows,.int .i64 y.size,.int .u32 y.sum,.int .i64 y.born],.bool true]) (wr.alloc (.cells #[.string x.key,.int .i64 x.window,.string x.part,.int .i64 x.first,.int .i64 x.last,.int .i64 x.rows,.int .i64 x.size,.int .u32 x.sum,.int .i64 x.born] 85)):=HM2.out.ask_at HU.out (zEn _) HOK.out HE0.out HS0.out
         go_wp2
         refine bodyPost_ret (results_mf rfl _ _ (w.heap.size+2) 53 #[.int .i64 0,.int .i64 0,.int .i64 0,.slice none 0 0,.slice none 0 0,.slice none 0 0] _ _ rfl rfl (((set6_blk (HZ.out _ HW3.out) _ _ _ _ _ _).alloc _).alloc _) Tryz.underlying53 rfl (by kernel_rfl)) rfl ?_
         exact ret_err HV.out (by decide) ((set6_alloc hb00 (by omega) hb00.size _ _ _ _ _ _ _).alloc (by have:=hb00.size;simp [set6_size];omega) _)
       obtain rfl:j=d.add.length:=by omega
       have hv:exiB m d=false:=any_no HF.out
       have HD7:Hid (refE m d=if m.gen=1099511627775 then 2 else 0):=Jh (by rw [HD6.out,if_neg (by rw [hv];decide)])
       have HExi:=Jh HF.out
       have HExb:=Jh hv
       clear HD6 HF hv
       have hb9:=hb00
       clear hb00
       have hb00:=hb9
       clear hb9
       by_cases e0:m.gen=1099511627775
       ·have f0:(m.gen == 1099511627775)=true:=eqt e0
        have HV:Hid (appE m d=2):=Jh (appE_ref (by rw [HD7.out,if_pos e0]) (by decide))
        have HE:=HW3
        clear e0 HD7
        go_wp2
        refine bodyPost_ret (results_mf rfl _ _ (w.heap.size+2) 53 #[.int .i64 0,.int .i64 0,.int .i64 0,.slice none 0 0,.slice none 0 0,.slice none 0 0] _ _ rfl rfl (set6_blk (HZ.out _ HE.out) _ _ _ _ _ _) Tryz.underlying53 rfl (by kernel_rfl)) rfl ?_
        exact ret_err HV.out (by decide) (set6_below (HB0.out _ HE.out).1 (by omega) _ _ _ _ _ _)
       have f0:(m.gen == 1099511627775)=false:=eqf e0
       have HRef:Hid (refE m d=0):=Jh (by rw [HD7.out,if_neg e0])
       have HGen:=Jh e0
       clear e0 HD7
       go_wp2
       have HMp0:Hid (MpIs M fun y=>(y∈m.E∧y.key∉d.drop)∨y∈d.add.take 0):=Jh (HMq.out.imp fun y=>by simp)
       go_loopw [167] (fun i wr=>∃ (j:Nat) (M:List (ByteArray × En)),j≤d.add.length∧i=.int .i64 (j:Int)∧Hid (MapAt kS enV wr gm M)∧Hid (MpIs M fun y=>(y∈m.E∧y.key∉d.drop)∨y∈d.add.take j)∧M.length≤m.E.length+j∧Hid (Below (w.heap.size+3) wm wr)∧gm<wr.heap.size) (fun i _=>d.add.length-(intOf i).toNat)
       case atStart=>exact ⟨0,M,Nat.zero_le _,rfl,HMM,HMp0,by omega,HW3,hz⟩
       case round =>
        clear HMM HMq HMp0 HW3 hz hML hb00 hsz hg2 f0 s0 s1 s2 s3 s4 s5 t0 t1 t2 t3 t4 t5 t6 t7 z0 z1 z2 z3 z4 z5 y0 y1 y2 y3 y4 y5
        obtain ⟨j,M,hj,rfl,HMM,HMp,hML,HW3,hz⟩:=hrel
        obtain ⟨hb00,hsz⟩:=HB0.out wr HW3.out
        obtain ⟨⟨⟨s0,s1,s2,s3,s4,s5⟩,⟨t0,t1,t2,t3,t4,t5,t6,t7⟩⟩,-⟩:=HT.out wr HW3.out
        by_cases hlt:j<d.add.length
        ·have hr:=HRA.out wr hb00
         obtain ⟨b,off,rfl,hbB⟩:=row_addr hr (by omega)
         obtain ⟨p0,p1,p2,p3,p4,p5,p6,p7,p8⟩:wr.cell? ⟨b,off+j*9,none⟩=some (.string (gt d.add j).key)∧wr.cell? ⟨b,off+j*9+1,none⟩=some (.int .i64 (gt d.add j).window)∧wr.cell? ⟨b,off+j*9+2,none⟩=some (.string (gt d.add j).part)∧wr.cell? ⟨b,off+j*9+3,none⟩=some (.int .i64 (gt d.add j).first)∧wr.cell? ⟨b,off+j*9+4,none⟩=some (.int .i64 (gt d.add j).last)∧wr.cell? ⟨b,off+j*9+5,none⟩=some (.int .i64 (gt d.add j).rows)∧wr.cell? ⟨b,off+j*9+6,none⟩=some (.int .i64 (gt d.add j).size)∧wr.cell? ⟨b,off+j*9+7,none⟩=some (.int .u32 (gt d.add j).sum)∧wr.cell? ⟨b,off+j*9+8,none⟩=some (.int .i64 (gt d.add j).born):=⟨row_cell ecs_len hr hlt (j:=0) rfl,row_cell ecs_len hr hlt (j:=1) rfl,row_cell ecs_len hr hlt (j:=2) rfl,row_cell ecs_len hr hlt (j:=3) rfl,row_cell ecs_len hr hlt (j:=4) rfl,row_cell ecs_len hr hlt (j:=5) rfl,row_cell ecs_len hr hlt (j:=6) rfl,row_cell ecs_len hr hlt (j:=7) rfl,row_cell ecs_len hr hlt (j:=8) rfl⟩
         have HOK:Hid (kS.ok (gt d.add j).key):=Jh (HKA.out _ (gt_mem hlt))
         have HY:Hid (MpIs (mput kS.lt M (gt d.add j).key (gt d.add j)) fun y=>(y∈m.E∧y.key∉d.drop)∨y∈d.add.take (j+1)):=Jh ((HMp.out.put (gt d.add j) (fun y hy e=>by
          rcases hy with hy|hy
          ·have h1:=HExi.out j hlt
           unfold exi1 at h1
           rw [Bool.and_eq_false_iff,Bool.not_eq_false',has_mem,← Bool.not_eq_true,hasK_iff] at h1
           rcases h1 with h1|h1
           ·exact h1 ⟨y,hy.1,e⟩
           ·exact hy.2 (by rw [e];exact h1)
          ·exact key_new HEf.out.ndA hlt y hy e)).imp fun y=>by rw [take_gt hlt,List.mem_append,List.mem_singleton,or_assoc])
         have hpl:=mput_le (M:=M) (gt d.add j).key (gt d.add j)
         have HW4:Hid (Below (w.heap.size+3) wm (wr.alloc (.cells #[.string (gt d.add j).key,.int .i64 (gt d.add j).window,.string (gt d.add j).part,.int .i64 (gt d.add j).first,.int .i64 (gt d.add j).last,.int .i64 (gt d.add j).rows,.int .i64 (gt d.add j).size,.int .u32 (gt d.add j).sum,.int .i64 (gt d.add j).born] 85))):=Jh (HW3.out.alloc hsz _)
         clear hr HMp
         generalize gt d.add j=x at *
         go_wp2_with (at_mapUpdate;go_must (refine wpList_put _ rfl _ _ _ rfl (HMM.out.alloc _) HU.out x.key x rfl rfl rfl HOK.out (by unfold maxLen;omega) ?_))
         intro w2 hm2 hg2 hs2
         have HMM2:=Jh hm2
         have HW2:Hid (Below (w.heap.size+3) wm w2):=Jh (HW4.out.grown hg2 (by simp;omega) (by intro g hg;injection hg with hg;omega))
         have hz2:gm<w2.heap.size:=by first|omega|(rw [hs2];simp;omega)
         have hl2:(mput kS.lt M x.key x).length≤m.E.length+(j+1):=by omega
         clear hm2 hg2 hs2 hpl
         go_wp2
         go_roundw
         case rel=>exact ⟨j+1,_,by omega,by go_num,HMM2,HY,hl2,HW2,hz2⟩
         case measure=>simp [intOf];omega
        obtain rfl:j=d.add.length:=by omega
        have HMq:Hid (MpIs M fun y=>y∈d.add∨(y∈m.E∧y.key∉d.drop)):=Jh (HMp.out.imp fun y=>by rw [List.take_length];exact Or.comm)
        have HEnt:Hid ((ents m d).Pairwise fun a b=>ltE a b=true):=Jh (ents_srt HRf.out.srtE HEf.out.ndA (fun x hx y hy hk e=>by
          obtain ⟨i,hi,rfl⟩:=mem_gt hx
          have h1:=HExi.out i hi
          unfold exi1 at h1
          rw [Bool.and_eq_false_iff,Bool.not_eq_false',has_mem,← Bool.not_eq_true,hasK_iff] at h1
          rcases h1 with h1|h1
          ·exact h1 ⟨y,hy,e⟩
          ·exact hk (by rw [e];exact h1)) HKE.out HKA.out)
        clear HMp HRA HExi
        have hmx1:=fun ats ty W=>max_run (P:=Tryz.prog) ats ty m.cut d.cut W
        have hmx2:=fun ats ty W=>max_run (P:=Tryz.prog) ats ty m.fence d.fence W
        have n1:IntKind.i64.wrap (m.gen+1)=m.gen+1:=IntWalk.i64_in _ (by have:=HRf.out.gen;omega)
        have HM9:=Jh (HMM.out.alloc (.cells #[.int .i64 (m.gen+1),.int .i64 (maxI m.cut d.cut),.int .i64 (maxI m.fence d.fence),.slice none 0 0,.slice none 0 0,.slice none 0 0] 53))
        have HB9:=Jh (Blk.new wr 53 #[.int .i64 (m.gen+1),.int .i64 (maxI m.cut d.cut),.int .i64 (maxI m.fence d.fence),.slice none 0 0,.slice none 0 0,.slice none 0 0])
        have HW9:Hid (Below (w.heap.size+3) wm (wr.alloc (.cells #[.int .i64 (m.gen+1),.int .i64 (maxI m.cut d.cut),.int .i64 (maxI m.fence d.fence),.slice none 0 0,.slice none 0 0,.slice none 0 0] 53))):=Jh (HW3.out.alloc hsz _)
        have hne:wr.heap.size≠gm:=by omega
        have HCut:=Jh (cutM_calls _ HM9.out (HB9.out.cell 1) hne)
        have hgq:w.heap.size+3≤wr.heap.size:=hsz
        have hz9:wr.heap.size<(wr.alloc (.cells #[.int .i64 (m.gen+1),.int .i64 (maxI m.cut d.cut),.int .i64 (maxI m.fence d.fence),.slice none 0 0,.slice none 0 0,.slice none 0 0] 53)).heap.size:=by simp
        go_wp2_with fail
        clear hmx1 hmx2 n1 HMM HW3 hb00 hsz hz s0 s1 s2 s3 s4 s5 t0 t1 t2 t3 t4 t5 t6 t7
        generalize wr.alloc (.cells #[.int .i64 (m.gen+1),.int .i64 (maxI m.cut d.cut),.int .i64 (maxI m.fence d.fence),.slice none 0 0,.slice none 0 0,.slice none 0 0] 53)=w6 at *
        generalize wr.heap.size=gq at *
        refine HCut.out.mono ?_
        rintro e w7 ⟨rfl,hm7,hg7⟩
        have HM7:=Jh hm7
        have HB7:=Jh (HB9.out.grown hg7 (by intro hg;injection hg with hg;omega))
        have HW7:Hid (Below (w.heap.size+3) wm w7):=Jh (HW9.out.grown hg7 (by omega) (by intro g hg;injection hg with hg;omega))
        have hz7:gq<w7.heap.size:=Nat.lt_of_lt_of_le hz9 hg7.size
        have HMp7:Hid ((M.filter fun p=>!decide (p.2.window<maxI m.cut d.cut)).map (·.2)=ents m d):=Jh ((HMq.out.cut (maxI m.cut d.cut)).list hm7.srt HEnt.out fun x=>by rw [ents_mem];rfl)
        clear hm7 hg7 HM9 HB9 HW9 HCut HMq hz9 HEnt hML
        generalize (M.filter fun p=>!decide (p.2.window<maxI m.cut d.cut))=N at *
        have hln:=HM7.out.len_run HU.out 3
        obtain ⟨-,⟨z0,z1,z2,z3,z4,z5⟩,⟨y0,y1,y2,y3,y4,y5⟩⟩:=HT.out w7 HW7.out
        have hN:N.length=(ents m d).length:=by rw [← HMp7.out,List.length_map]
        by_cases hbig:256<N.length
        ·have f0:decide ((256:Int)<(N.length:Int))=true:=dct (by omega)
         have HV:Hid (appE m d=5):=Jh (by unfold appE;rw [if_neg (by rw [HRef.out];decide),if_pos (by omega)])
         have HE:=HW7
         clear hN
         go_wp2
         refine bodyPost_ret (results_mf rfl _ _ (w.heap.size+2) 53 #[.int .i64 0,.int .i64 0,.int .i64 0,.slice none 0 0,.slice none 0 0,.slice none 0 0] _ _ rfl rfl (set6_blk (HZ.out _ HE.out) _ _ _ _ _ _) Tryz.underlying53 rfl (by kernel_rfl)) rfl ?_
         exact ret_err HV.out (by decide) (set6_below (HB0.out _ HE.out).1 (by omega) _ _ _ _ _ _)
        have f0:decide ((256:Int)<(N.length:Int))=false:=dcf (by omega)
        have HAp:Hid (appE m d=0):=Jh (by unfold appE;rw [if_neg (by rw [HRef.out];decide),if_neg (by omega)])
        have HN:=Jh hN
        have hsize:Go.Maps.size (DataW.map (N.map (Go.Proofs.YtibnehaibgbliaaGreat.encE kS enV)))=N.length:=by rw [Go.Maps.size_eq,List.length_map]
        have HSF:=Jh (sorted_fn gm N.length _ rawR w7 HM7.out.own (by rw [hsize];unfold maxLen;omega) (by rw [hsize];omega))
        have HSK:=Jh fun (ss:List (List UInt8)) hp=>sorted_keys (hk:=Tryz.underlying9) (ev:=enV) HM7.out.srt (ss:=ss) hp
        clear hN hsize z0 z1 z2 z3 z4 z5 y0 y1 y2 y3 y4 y5
        go_wp2_with fail
        refine (keys_fn (some gm) w7).mono ?_
        rintro e w' ⟨rfl,rfl⟩
        clear hln f0
        go_wp2_with fail
        refine HSF.out.mono ?_
        rintro e w8 ⟨v,ss,rfl,hperm,hrow,-,hb8⟩
        obtain ⟨hkeys,hsl⟩:=HSK.out ss hperm
        rw [hkeys,hsl] at hrow
        obtain ⟨A1,cc1,rfl,-,-,hrd1⟩:=own_slice hrow
        have hbw:Below w7.heap.size w7 w8:=((Below.refl w7.heap.size w7).alloc (Nat.le_refl _) _).trans (hb8.mono (by simp))
        have HK8:=Jh (own_mono hrow (show gq+1≤_ by simp;omega))
        have HM8:=Jh (HM7.out.below hbw HM7.out.lt_)
        have HB8:=Jh (HB7.out.below hbw hz7)
        have HW8:=Jh (HW7.out.trans (hbw.mono (by have:=(HB0.out _ HW7.out).2;omega)))
        have hz8:gq<w8.heap.size:=Nat.lt_of_lt_of_le hz7 hbw.size
        have hNl:N.length≤256:=by omega
        have HNd:=Jh HM7.out.nodup
        clear hkeys hsl hrow hrd1 hbw hb8 hperm HSK HSF HM7 HB7 HW7 hbig
        go_wp2
        go_loopw [201] (fun i wr=>∃ (j:Nat) (A:Option Addr) (c:Nat),j≤N.length∧i=.int .i64 (j:Int)∧Hid (wr.ownsRow w8.heap.size 85 9 (.slice A j c) j (((ents m d).take j).flatMap En.cs))∧Hid (Blk wr gq 53 #[.int .i64 (m.gen+1),.int .i64 (maxI m.cut d.cut),.int .i64 (maxI m.fence d.fence),.slice A j c,.slice none 0 0,.slice none 0 0])∧Hid (Only gq w8 wr)) (fun i _=>N.length-(intOf i).toNat)
        case atStart=>exact ⟨0,none,0,Nat.zero_le _,rfl,Jh (by simpa using World.ownsRow_nil _ _ _ _),HB8,Jh (Only.refl _ _)⟩
        case round =>
         clear HB8
         obtain ⟨j,A,c,hj,rfl,HO,HBk,HOn⟩:=hrel
         obtain ⟨wo,rfl⟩:∃ wo:World,wo=wr:=⟨_,rfl⟩
         have hso:w8.heap.size≤wo.heap.size:=HOn.out.size
         by_cases hlt:j<N.length
         ·have hKo:=own_only HK8.out HOn.out (Nat.lt_succ_self _)
          obtain ⟨bK,oK,eK,hbK,hcK⟩:=(Reads.of_own hKo).2 (by omega)
          have k0:=hcK j (.string (gt N j).1) (by rw [List.getElem?_map,gt_at hlt];rfl)
          obtain ⟨q0,q1,q2,q3,q4,q5⟩:wo.cell? ⟨gq,0,none⟩=some (.int .i64 (m.gen+1))∧wo.cell? ⟨gq,1,none⟩=some (.int .i64 (maxI m.cut d.cut))∧wo.cell? ⟨gq,2,none⟩=some (.int .i64 (maxI m.fence d.fence))∧wo.cell? ⟨gq,3,none⟩=some (.slice A j c)∧wo.cell? ⟨gq,4,none⟩=some (.slice none 0 0)∧wo.cell? ⟨gq,5,none⟩=some (.slice none 0 0):=⟨HBk.out.cell 0,HBk.out.cell 1,HBk.out.cell 2,HBk.out.cell 3,HBk.out.cell 4,HBk.out.cell 5⟩
          have i0:(0:Int)≤(j:Int):=by omega
          have i9:(j:Int)<(N.length:Int):=by omega
          have hgo:gq<wo.heap.size:=HBk.out.lt
          have HOK:Hid ((kS).ok (gt N j).1):=Jh (HM8.out.ok _ (gt_mem hlt))
          have HE0:Hid ((mget N (gt N j).1).elim (.agg #[.string .empty,.int .i64 0,.string .empty,.int .i64 0,.int .i64 0,.int .i64 0,.int .i64 0,.int .u32 0,.int .i64 0]) enV=.agg #[.string (gt N j).2.key,.int .i64 (gt N j).2.window,.string (gt N j).2.part,.int .i64 (gt N j).2.first,.int .i64 (gt N j).2.last,.int .i64 (gt N j).2.rows,.int .i64 (gt N j).2.size,.int .u32 (gt N j).2.sum,.int .i64 (gt N j).2.born]):=Jh (by rw [mget_pw HNd.out (gt_mem hlt)];rfl)
          have HMo:=Jh (HM8.out.kept HOn.out (by intro hg;injection hg with hg;omega))
          have hlk:(Instr.lookup 158 (.map (some gm)) (.string (gt N j).1) false).run Tryz.prog wo=.ok (.agg #[.string (gt N j).2.key,.int .i64 (gt N j).2.window,.string (gt N j).2.part,.int .i64 (gt N j).2.first,.int .i64 (gt N j).2.last,.int .i64 (gt N j).2.rows,.int .i64 (gt N j).2.size,.int .u32 (gt N j).2.sum,.int .i64 (gt N j).2.born]) wo:=HMo.out.get_at HU.out (zEn _) HOK.out HE0.out
          have HTk:Hid ((ents m d).take (j+1)=(ents m d).take j++[(gt N j).2]):=Jh (by rw [← HMp7.out,← List.map_take,← List.map_take,take_gt hlt,List.map_append];rfl)
          clear hcK hKo
          subst eK
          generalize gt N j=kx at *
          obtain ⟨k,x⟩:=kx
          dsimp only at *
          have HO2:=Jh (HO.out.alloc (.cells #[.string x.key,.int .i64 x.window,.string x.part,.int .i64 x.first,.int .i64 x.last,.int .i64 x.rows,.int .i64 x.size,.int .u32 x.sum,.int .i64 x.born] 85))
          have HB2:=Jh (HBk.out.alloc (.cells #[.string x.key,.int .i64 x.window,.string x.part,.int .i64 x.first,.int .i64 x.last,.int .i64 x.rows,.int .i64 x.size,.int .u32 x.sum,.int .i64 x.born] 85))
          have hrd:Reads (wo.alloc (.cells #[.string x.key,.int .i64 x.window,.string x.part,.int .i64 x.first,.int .i64 x.last,.int .i64 x.rows,.int .i64 x.size,.int .u32 x.sum,.int .i64 x.born] 85)) (wo.heap.size+1) 9 (some ⟨wo.heap.size,0,none⟩) 1 x.cs:=Reads.made (n:=1) (size:=9) wo #[.string x.key,.int .i64 x.window,.string x.part,.int .i64 x.first,.int .i64 x.last,.int .i64 x.rows,.int .i64 x.size,.int .u32 x.sum,.int .i64 x.born] 85 rfl
          go_wp2_with (at_builtin;go_must (refine wpList_append_sl _ rfl (.tmp 206) (.tmp 210) _ rfl w8.heap.size 85 _ 9 88 Tryz.underlying22 Tryz.infoEn rfl (by omega) _ _ _ rfl HO2.out (wo.heap.size+1) _ 1 1 _ rfl hrd (ecs1 x) (by unfold maxLen;omega) (by omega) (by simp;omega) ?_))
          intro A5 c5 w5 hc51 hc52 hr5 hbel5 hown5 hgr hob
          have hB5:Blk w5 gq 53 #[.int .i64 (m.gen+1),.int .i64 (maxI m.cut d.cut),.int .i64 (maxI m.fence d.fence),.slice A j c,.slice none 0 0,.slice none 0 0]:=HB2.out.below hbel5 hz8
          have hO5:Only gq w8 w5:=only_below (HOn.out.alloc _) hbel5
          have c3:=hB5.cell 3
          have f3:=hB5.frozen 3
          have hB6:=hB5.set_ 3 (.slice A5 (j+1) c5)
          have hO6:Only gq w8 (w5.setCell ⟨gq,3,none⟩ (.slice A5 (j+1) c5)):=hO5.setCell (.inl rfl) _
          have hown6:(w5.setCell ⟨gq,3,none⟩ (.slice A5 (j+1) c5)).ownsRow w8.heap.size 85 9 (.slice A5 (j+1) c5) (j+1) (((ents m d).take (j+1)).flatMap En.cs):=by
           rw [HTk.out,List.flatMap_append,show [x].flatMap En.cs=x.cs by simp]
           exact own_only hown5 ((Only.refl gq w5).setCell (.inl rfl) _) hz8
          have HB6:Hid (Blk (w5.setCell ⟨gq,3,none⟩ (.slice A5 (j+1) c5)) gq 53 #[.int .i64 (m.gen+1),.int .i64 (maxI m.cut d.cut),.int .i64 (maxI m.fence d.fence),.slice A5 (j+1) c5,.slice none 0 0,.slice none 0 0]):=Jh (by simpa using hB6)
          have HO6:=Jh hO6
          have HN6:=Jh hown6
          clear hc51 hc52 hr5 hbel5 hown5 hgr hob hB5 hO5 hB6 hO6 hown6 hrd HO2 HB2 hlk q0 q1 q2 q3 q4 q5 k0
          go_wp2
          go_roundw
          case rel=>exact ⟨j+1,A5,c5,by omega,by go_num,HN6,HB6,HO6⟩
          case measure=>simp [intOf];omega
         obtain rfl:j=N.length:=by omega
         have HOE:Hid (wo.ownsRow w8.heap.size 85 9 (.slice A N.length c) N.length ((ents m d).flatMap En.cs)):=Jh (by
          have:=HO.out
          rw [List.take_of_length_le (by rw [HN.out];exact Nat.le_refl _)] at this
          exact this)
         have HWo:Hid (Below (w.heap.size+3) wm wo):=Jh (HW8.out.trans (HOn.out.below hgq (by have:=(HB0.out _ HW8.out).2;omega)))
         clear HO HOn HMp7 HNd HM8 HK8 HW8
         obtain ⟨hb00,hsz⟩:=HB0.out wo HWo.out
         obtain ⟨⟨⟨s0,s1,s2,s3,s4,s5⟩,⟨t0,t1,t2,t3,t4,t5,t6,t7⟩⟩,-⟩:=HT.out wo HWo.out
         have hfM:m.M.length≤64:=by
          have:=srt_len (l:=m.M) (a:=1) (b:=64) HRf.out.srtM (fun x hx=>(mk_in (HRf.out.mkM x hx)).1) (by omega)
          omega
         have HCl:=Jh (cloneM_calls wo (c:=cM) (HRK.out wo hb00) (by have:=hb00.size;omega) (by omega))
         have hEb:∀ g,(Value.slice A N.length c).ownBlock=some g→w8.heap.size≤g∧g<wo.heap.size:=fun g hg=>HOE.out.lt g hg
         have HEb:=Jh hEb
         have hgo:gq<wo.heap.size:=HBk.out.lt
         clear hEb
         go_wp2_with (go_at_call 29;refine HCl.out.mono ?_;rintro e w9 ⟨A9,c9,rfl,hown9,hb9⟩;have hB9:Blk w9 gq 53 #[.int .i64 (m.gen+1),.int .i64 (maxI m.cut d.cut),.int .i64 (maxI m.fence d.fence),.slice A N.length c,.slice none 0 0,.slice none 0 0]:=HBk.out.below hb9 hgo;have c4:=hB9.cell 4;have f4:=hB9.frozen 4;have HT9:=HT.out w9 (HWo.out.trans (hb9.mono hsz)))
         clear HT9
         have HO9:=Jh (own_only hown9 ((Only.refl gq w9).setCell (p:=⟨gq,4,none⟩) (.inl rfl) (.slice A9 m.M.length c9)) hgo)
         have HOE9:=Jh (own_only (own_below HOE.out hb9) ((Only.refl gq w9).setCell (p:=⟨gq,4,none⟩) (.inl rfl) (.slice A9 m.M.length c9)) hz8)
         have HB9:Hid (Blk (w9.setCell ⟨gq,4,none⟩ (.slice A9 m.M.length c9)) gq 53 #[.int .i64 (m.gen+1),.int .i64 (maxI m.cut d.cut),.int .i64 (maxI m.fence d.fence),.slice A N.length c,.slice A9 m.M.length c9,.slice none 0 0]):=Jh (by simpa using hB9.set_ 4 (.slice A9 m.M.length c9))
         have HW9:Hid (Below (w.heap.size+3) wm (w9.setCell ⟨gq,4,none⟩ (.slice A9 m.M.length c9))):=Jh ((HWo.out.trans (hb9.mono hsz)).setCell hgq _)
         have hwo:gq<wo.heap.size:=hgo
         have hw9:wo.heap.size≤(w9.setCell ⟨gq,4,none⟩ (.slice A9 m.M.length c9)).heap.size:=by have:=hb9.size;simpa using this
         clear hown9 hb9 hB9 c4 f4 HBk HCl hb00 hsz s0 s1 s2 s3 s4 s5 t0 t1 t2 t3 t4 t5 t6 t7 HWo HOE
         generalize w9.setCell ⟨gq,4,none⟩ (.slice A9 m.M.length c9)=w10 at *
         go_loopw [221] (fun i wr=>∃ (j:Nat) (A':Option Addr) (c':Nat),j≤d.marks.length∧i=.int .i64 (j:Int)∧Hid (wr.ownsRow wo.heap.size 90 2 (.slice A' (putMs (d.marks.take j) m.M).length c') (putMs (d.marks.take j) m.M).length ((putMs (d.marks.take j) m.M).flatMap Mk.cs))∧Hid (wr.ownsRow w8.heap.size 85 9 (.slice A N.length c) N.length ((ents m d).flatMap En.cs))∧Hid (Blk wr gq 53 #[.int .i64 (m.gen+1),.int .i64 (maxI m.cut d.cut),.int .i64 (maxI m.fence d.fence),.slice A N.length c,.slice A' (putMs (d.marks.take j) m.M).length c',.slice none 0 0])∧Hid (Below (w.heap.size+3) wm wr)∧wo.heap.size≤wr.heap.size) (fun i _=>d.marks.length-(intOf i).toNat)
         case atStart=>exact ⟨0,A9,c9,Nat.zero_le _,rfl,HO9,HOE9,HB9,HW9,hw9⟩
         case round =>
          clear HO9 HOE9 HB9 HW9 hw9
          obtain ⟨j,A',c',hj,rfl,HO,HOE,HBk,HW,hwr⟩:=hrel
          obtain ⟨hb00,hsz⟩:=HB0.out wr HW.out
          have hgr0:gq<wr.heap.size:=by omega
          have hMo:∀ g,(Value.slice A' (putMs (d.marks.take j) m.M).length c').ownBlock=some g→wo.heap.size≤g∧g<wr.heap.size:=fun g hg=>HO.out.lt g hg
          have HMo:=Jh hMo
          clear hMo
          by_cases hlt:j<d.marks.length
          ·have hr:=HRM.out wr hb00
           obtain ⟨b,off,rfl,hbB⟩:=row_addr hr (by omega)
           obtain ⟨p0,p1⟩:wr.cell? ⟨b,off+j*2,none⟩=some (.int .i64 (gt d.marks j).maker)∧wr.cell? ⟨b,off+j*2+1,none⟩=some (.int .i64 (gt d.marks j).seq):=⟨row_cell mcs_len hr hlt (j:=0) rfl,row_cell mcs_len hr hlt (j:=1) rfl⟩
           have HNx:Hid (putMs (d.marks.take (j+1)) m.M=putL Mk.maker (gt d.marks j) (putMs (d.marks.take j) m.M)):=Jh (by rw [take_gt hlt,putMs_snoc])
           have hfew:(putMs (d.marks.take j) m.M).length≤64:=putMs_few HRf.out.srtM HRf.out.mkM fun x hx=>HEf.out.mkA x (List.mem_of_mem_take hx)
           have HPut:=Jh (putM_calls (wr.alloc (.cells #[.int .i64 (gt d.marks j).maker,.int .i64 (gt d.marks j).seq] 90)) (x:=gt d.marks j) (HO.out.alloc _) (putMs_srt _ HRf.out.srtM) (by omega) (by simp;omega))
           have HB2:=Jh (HBk.out.alloc (.cells #[.int .i64 (gt d.marks j).maker,.int .i64 (gt d.marks j).seq] 90))
           have HE2:=Jh (HOE.out.alloc (.cells #[.int .i64 (gt d.marks j).maker,.int .i64 (gt d.marks j).seq] 90))
           have HW2:=Jh (HW.out.alloc hsz (.cells #[.int .i64 (gt d.marks j).maker,.int .i64 (gt d.marks j).seq] 90))
           have hwr2:wo.heap.size≤(wr.alloc (.cells #[.int .i64 (gt d.marks j).maker,.int .i64 (gt d.marks j).seq] 90)).heap.size:=by simp;omega
           have q4:=HBk.out.cell 4
           clear hr
           generalize gt d.marks j=x at *
           generalize putMs (d.marks.take j) m.M=L at *
           generalize hL2:putMs (d.marks.take (j+1)) m.M=L2 at *
           have HL2:=Jh hL2
           clear hL2
           go_wp2_with (go_at_call 106;refine HPut.out.mono ?_;rintro e w5 ⟨A5,c5,rfl,hown5,hgr,hob⟩;have hB5:Blk w5 gq 53 #[.int .i64 (m.gen+1),.int .i64 (maxI m.cut d.cut),.int .i64 (maxI m.fence d.fence),.slice A N.length c,.slice A' L.length c',.slice none 0 0]:=HB2.out.grown hgr (fun e=>by have:=HMo.out gq e.symm;omega);have c4:=hB5.cell 4;have f4:=hB5.frozen 4)
           rw [← HNx.out] at hown5 ⊢
           have HO6:=Jh (own_only hown5 ((Only.refl gq w5).setCell (p:=⟨gq,4,none⟩) (.inl rfl) (.slice A5 L2.length c5)) hwo)
           have HE6:=Jh (own_only (HE2.out.kept hgr (own_apart HEb.out fun g hg=>(HMo.out g hg).1)) ((Only.refl gq w5).setCell (p:=⟨gq,4,none⟩) (.inl rfl) (.slice A5 L2.length c5)) hz8)
           have HB6:Hid (Blk (w5.setCell ⟨gq,4,none⟩ (.slice A5 L2.length c5)) gq 53 #[.int .i64 (m.gen+1),.int .i64 (maxI m.cut d.cut),.int .i64 (maxI m.fence d.fence),.slice A N.length c,.slice A5 L2.length c5,.slice none 0 0]):=Jh (by simpa using hB5.set_ 4 (.slice A5 L2.length c5))
           have HW6:Hid (Below (w.heap.size+3) wm (w5.setCell ⟨gq,4,none⟩ (.slice A5 L2.length c5))):=Jh ((HW2.out.grown hgr (by simp;omega) (fun k hk=>by have:=HMo.out k hk;omega)).setCell hgq _)
           have hw6:wo.heap.size≤(w5.setCell ⟨gq,4,none⟩ (.slice A5 L2.length c5)).heap.size:=by have:=hgr.size;simp at this ⊢;omega
           clear hown5 hgr hob hB5 c4 f4 q4
           (try go_wp2)
           go_roundw
           case rel=>exact ⟨j+1,A5,c5,by omega,by go_num,by rw [HL2.out];exact HO6,HE6,by rw [HL2.out];exact HB6,HW6,hw6⟩
           case measure=>simp [intOf];omega
          obtain rfl:j=d.marks.length:=by omega
          rw [List.take_length] at HO HBk HMo
          have HMs:Hid (putMs d.marks m.M=mrks m d):=Jh rfl
          rw [HMs.out] at HO HBk HMo
          clear HMs HRM HRK
          have HS0:=Jh fun W hW=>(HT.out W hW).1
          have HTS:Hid (∀ W,Below (w.heap.size+3) wm W→W.cell? ⟨w.heap.size,5,none⟩=some (.slice AO m.O.length cO)∧W.cell? ⟨w.heap.size+1,5,none⟩=some (.int .i64 d.by_.agent)∧W.cell? ⟨w.heap.size+1,6,none⟩=some (.int .i64 d.by_.life)∧W.cell? ⟨w.heap.size+1,7,none⟩=some (.int .i64 d.by_.count)):=Jh fun W hW=>⟨(HS0.out W hW).1.2.2.2.2.2,(HS0.out W hW).2.2.2.2.2.2⟩
          have hfO:m.O.length≤8:=by
           have:=srt_len (l:=m.O) (a:=1) (b:=8) HRf.out.srtO (fun x hx=>(ow_in (HRf.out.owO x hx)).1) (by omega)
           omega
          have HCl:=Jh (cloneO_calls wr.drew (c:=cO) (HRO2.out wr.drew (below_drewN_ hb00 1)) (by show B≤wr.heap.size;have:=hb00.size;omega) (by omega))
          have HSO:=Jh HRf.out.srtO
          go_wp2_with fail
          refine wp_region_T 7 (fun w'=>w'.cell? ⟨w.heap.size,5,none⟩=some (.slice AO m.O.length cO)∧w'.cell? ⟨w.heap.size+1,5,none⟩=some (.int .i64 d.by_.agent)∧w'.cell? ⟨w.heap.size+1,6,none⟩=some (.int .i64 d.by_.life)∧w'.cell? ⟨w.heap.size+1,7,none⟩=some (.int .i64 d.by_.count)) (by kernel_rfl) (HTS.out _ (below_drewN_ HW.out 1)) (fun hHeld=>?_)
          apply tkT 0
          apply tkT 1
          apply tkT 3
          apply tkT 4
          refine wpAnyT_one (i:=2) (by kernel_rfl) rfl (fun K hK=>?_);go_simp
          refine HCl.out.mono ?_
          rintro e wa ⟨Aa,ca,rfl,hownA,hba⟩
          have hba2:Below wr.heap.size wr wa:=(below_drewN_ (Below.refl wr.heap.size wr) 1).trans hba
          have hWa:Below (w.heap.size+3) wm wa:=HW.out.trans (hba2.mono hsz)
          have hHa:=HTS.out _ hWa
          refine hK.out _ _ (fun _=>hHa) ?_
          clear hK K hHeld
          (try simp only [Act.put,Jk,Jg,Ji,Jd,Je,Jf])
          have hownA2:wa.ownsRow wr.heap.size 26 3 (.slice Aa m.O.length ca) m.O.length (m.O.flatMap Ow.cs):=hownA
          have hsa:wr.heap.size≤wa.heap.size:=hba2.size
          have HPut:=Jh (putO_calls wa (x:=d.by_) hownA2 HSO.out (by omega) hsa)
          have HOb:Hid (∀ g,(Value.slice Aa m.O.length ca).ownBlock=some g→wr.heap.size≤g):=Jh fun g hg=>(hownA2.lt g hg).1
          have HOEa:=Jh (own_below HOE.out hba2)
          have HOMa:=Jh (own_below HO.out hba2)
          have HBa:=Jh (HBk.out.below hba2 hgr0)
          have HWa:=Jh hWa
          clear hownA hownA2 hba hba2 hWa hHa
          refine wpAnyT_one (i:=5) (by kernel_rfl) rfl (fun K hK=>?_);go_simp
          refine HPut.out.mono ?_
          rintro e wb ⟨Ab,cb,rfl,hownB,hgr,hob⟩
          have hWb:Below (w.heap.size+3) wm wb:=HWa.out.grown hgr (by omega) (fun k hk=>by have:=HOb.out k hk;omega)
          have hHb:=HTS.out _ hWb
          refine hK.out _ _ (fun _=>hHb) ?_
          clear hK K
          (try simp only [Act.put,Jk,Jg,Ji,Jd,Je,Jf])
          have HWb:=Jh hWb
          have HOEb:=Jh (HOEa.out.kept hgr (own_apart (a:=w8.heap.size) (b:=wr.heap.size) (fun g hg=>⟨(HEb.out g hg).1,by have:=(HEb.out g hg).2;omega⟩) HOb.out))
          have HOMb:=Jh (HOMa.out.kept hgr (own_apart (a:=wo.heap.size) (b:=wr.heap.size) HMo.out HOb.out))
          have HBb:=Jh (HBa.out.grown hgr (fun e=>by have:=HOb.out gq e.symm;omega))
          have HOOb:=Jh hownB
          clear hgr hob hownB hWb HPut HCl HWa HOEa HOMa HBa
          refine wpAnyT_one (i:=6) (by kernel_rfl) rfl (fun K hK=>?_);go_simp;refine hK.out _ _ (fun _=>hHb) ?_;clear hK K;(try simp only [Act.put,Jk,Jg,Ji,Jd,Je,Jf])
          have c5:=HBb.out.cell 5
          have f5:=HBb.out.frozen 5
          refine wpAnyT_one (i:=7) (by kernel_rfl) rfl (fun K hK=>?_);go_simp
          refine hK.out _ _ (fun h=>absurd rfl h) (wpAnyT_done (by kernel_rfl) ?_ _)
          clear hK K hHb c5 f5
          (try simp only [Act.put,Jk,Jg,Ji,Jd,Je,Jf])
          have hOn:Only gq wb (wb.setCell ⟨gq,5,none⟩ (.slice Ab (putL Ow.agent d.by_ m.O).length cb)):=(Only.refl gq wb).setCell (.inl rfl) _
          have HOEc:=Jh (own_only HOEb.out hOn hz8)
          have HOMc:=Jh (own_only HOMb.out hOn hwo)
          have HOOc:=Jh (own_only HOOb.out hOn hgr0)
          have HBc:Hid (Blk (wb.setCell ⟨gq,5,none⟩ (.slice Ab (putL Ow.agent d.by_ m.O).length cb)) gq 53 #[.int .i64 (m.gen+1),.int .i64 (maxI m.cut d.cut),.int .i64 (maxI m.fence d.fence),.slice A N.length c,.slice A' (mrks m d).length c',.slice Ab (putL Ow.agent d.by_ m.O).length cb]):=Jh (by simpa using HBb.out.set_ 5 (.slice Ab (putL Ow.agent d.by_ m.O).length cb))
          have HWc:Hid (Below (w.heap.size+3) wm (wb.setCell ⟨gq,5,none⟩ (.slice Ab (putL Ow.agent d.by_ m.O).length cb))):=Jh (HWb.out.setCell hgq _)
          clear hOn HOEb HOMb HOOb HBb HWb
          generalize wb.setCell ⟨gq,5,none⟩ (.slice Ab (putL Ow.agent d.by_ m.O).length cb)=wc at *
          obtain ⟨-,⟨z0,z1,z2,z3,z4,z5⟩,⟨y0,y1,y2,y3,y4,y5⟩⟩:=HT.out wc HWc.out
          obtain ⟨q0,q1,q2,q3,q4,q5⟩:wc.cell? ⟨gq,0,none⟩=some (.int .i64 (m.gen+1))∧wc.cell? ⟨gq,1,none⟩=some (.int .i64 (maxI m.cut d.cut))∧wc.cell? ⟨gq,2,none⟩=some (.int .i64 (maxI m.fence d.fence))∧wc.cell? ⟨gq,3,none⟩=some (.slice A N.length c)∧wc.cell? ⟨gq,4,none⟩=some (.slice A' (mrks m d).length c')∧wc.cell? ⟨gq,5,none⟩=some (.slice Ab (putL Ow.agent d.by_ m.O).length cb):=⟨HBc.out.cell 0,HBc.out.cell 1,HBc.out.cell 2,HBc.out.cell 3,HBc.out.cell 4,HBc.out.cell 5⟩
          have HB4:=Jh (set6_blk (HZ.out _ HWc.out) (.int .i64 (m.gen+1)) (.int .i64 (maxI m.cut d.cut)) (.int .i64 (maxI m.fence d.fence)) (.slice A N.length c) (.slice A' (mrks m d).length c') (.slice Ab (putL Ow.agent d.by_ m.O).length cb))
          have HFin:Hid (RetAp w (appM m d) (appE m d) (.returned (.tuple #[.agg #[.int .i64 (m.gen+1),.int .i64 (maxI m.cut d.cut),.int .i64 (maxI m.fence d.fence),.slice A N.length c,.slice A' (mrks m d).length c',.slice Ab (putL Ow.agent d.by_ m.O).length cb],.int .i64 0])) (set6 wc (w.heap.size+2) (.int .i64 (m.gen+1)) (.int .i64 (maxI m.cut d.cut)) (.int .i64 (maxI m.fence d.fence)) (.slice A N.length c) (.slice A' (mrks m d).length c') (.slice Ab (putL Ow.agent d.by_ m.O).length cb))):=Jh (by
           have hz3:=(HB0.out _ HWc.out).2
           have hO4:=set6_only (Only.refl (w.heap.size+2) wc) (.int .i64 (m.gen+1)) (.int .i64 (maxI m.cut d.cut)) (.int .i64 (maxI m.fence d.fence)) (.slice A N.length c) (.slice A' (mrks m d).length c') (.slice Ab (putL Ow.agent d.by_ m.O).length cb)
           have eE:=own_mono (own_only HOEc.out hO4 (by omega)) (show w.heap.size≤_ by omega)
           have eM:=own_mono (own_only HOMc.out hO4 (by omega)) (show w.heap.size≤_ by omega)
           have eO:=own_mono (own_only HOOc.out hO4 (by omega)) (show w.heap.size≤_ by omega)
           exact ret_ok HAp.out HN.out eE eM eO (set6_below (HB0.out _ HWc.out).1 (by omega) _ _ _ _ _ _))
          clear HOEc HOMc HOOc HBc
          go_wp2
          refine bodyPost_ret (results_mf rfl _ _ (w.heap.size+2) 53 _ _ _ rfl rfl HB4.out Tryz.underlying53 rfl (by kernel_rfl)) rfl ?_
          exact HFin.out
end Go.Proofs.YtibnehaibgbliaaGreat.Mf
