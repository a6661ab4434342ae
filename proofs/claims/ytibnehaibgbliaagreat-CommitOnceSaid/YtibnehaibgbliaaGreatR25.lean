/- Laws for the row's walk. -/
import Derived.Test.YtibnehaibgbliaaGreatR24
set_option linter.unusedVariables false
set_option linter.unusedSimpArgs false
open Go.Lib renaming hid → Jh
namespace Go.Proofs.YtibnehaibgbliaaGreat.Mf
open Go.RowKit Go.Proofs.YtibnehaibgbliaaGreat
theorem FineF.mrkR {m:Md} {d:Ed} (h:FineF m d):mrkR m d 64=mrks m d:=by
 refine srt_eq ltM_irr ltM_trans (ltM_srt.2 (mrkR_srt m d 64)) (ltM_srt.2 (putMs_srt d.marks h.r.srtM)) fun z=>?_
 rw [mrkR_mem]
 constructor
 ·rintro ⟨h1,h2,h3,h4⟩
  have h5:=h.seq z.maker
  rw [← h3] at h5
  have:=seq_mem (k:=z.maker) (l:=mrks m d) (by omega)
  rw [h5] at this
  exact this
 ·intro hz
  have h1:=mem_seq (putMs_srt d.marks h.r.srtM) hz
  have h2:mkB z=true:=by
   rcases putMs_mem d.marks h.r.srtM hz with h3|h3
   ·exact h.e.mkA z h3
   ·exact h.r.mkM z h3
  have h3:=mk_in h2
  have h4:seqL z.maker (mrks m d)=z.seq:=h1
  rw [h.seq] at h4
  exact ⟨h3.1.1,h3.1.2,h4.symm,by omega⟩
theorem FineF.ownR {m:Md} {d:Ed} (h:FineF m d):ownR m d 8=owns m d:=by
 refine srt_eq ltO_irr ltO_trans (ltO_srt.2 (ownR_srt d h.r.srtO 8)) (ltO_srt.2 (putL_srt h.r.srtO)) fun z=>?_
 unfold owns
 rw [ownR_mem,putL_mem h.r.srtO]
 constructor
 ·exact fun h=>h.2.2
 ·intro hz
  have h2:owB z=true:=by
   rcases hz with rfl|h3
   ·exact h.e.ow
   ·exact h.r.owO z h3.1
  have h3:=(ow_in h2).1
  exact ⟨h3.1,h3.2,hz⟩
def allK (m:Md) (d:Ed) (j:Nat):List En:=d.add++(m.E.take j).filter fun x=>!hasB d.drop x.key
theorem allK_zero (m:Md) (d:Ed):allK m d 0=d.add:=by simp [allK]
theorem allK_end (m:Md) (d:Ed):allK m d m.E.length=d.add++kept m d:=by unfold allK kept;rw [List.take_length]
theorem allK_step {m:Md} {d:Ed} {j:Nat} (hj:j<m.E.length):allK m d (j+1)=if hasB d.drop (gt m.E j).key=true then allK m d j else allK m d j++[gt m.E j]:=by
 unfold allK
 rw [take_gt hj,List.filter_append,← List.append_assoc]
 cases h:hasB d.drop (gt m.E j).key<;>simp [h]
theorem allK_len (m:Md) (d:Ed) (j:Nat):(allK m d j).length≤d.add.length+m.E.length:=by
 unfold allK
 rw [List.length_append]
 have:((m.E.take j).filter fun x=>!hasB d.drop x.key).length≤(m.E.take j).length:=List.length_filter_le _ _
 rw [List.length_take] at this
 omega
theorem entF_snoc (c:Int) (l acc:List En) (x:En):entF c (l++[x]) acc=stepE c (entF c l acc) x:=by unfold entF;rw [List.foldl_append];rfl
def ownK (m:Md) (d:Ed) (n k:Nat):List Ow:=ownR m d n++(m.O.take k).filter fun x=>decide (x.agent=(n:Int)+1)&&decide ((n:Int)+1≠d.by_.agent)
theorem ocs1 (x:Ow):∀ u∈x.cs,u.oneCell'=true:=by intro u hu;simp [Ow.cs] at hu;rcases hu with rfl|rfl|rfl<;>rfl
theorem ownK_zero (m:Md) (d:Ed) (n:Nat):ownK m d n 0=ownR m d n:=by simp [ownK]
theorem ownK_step {m:Md} {d:Ed} {n k:Nat} (hk:k<m.O.length):ownK m d n (k+1)=if (gt m.O k).agent=(n:Int)+1∧(n:Int)+1≠d.by_.agent then ownK m d n k++[gt m.O k] else ownK m d n k:=by
 unfold ownK
 rw [take_gt hk,List.filter_append,← List.append_assoc]
 by_cases h1:(gt m.O k).agent=(n:Int)+1
 ·by_cases h2:(n:Int)+1=d.by_.agent<;>simp [h1,h2]
 ·simp [h1]
theorem ownK_end (m:Md) (d:Ed) (n:Nat):ownR m d (n+1)=ownK m d n m.O.length++(if (n:Int)+1=d.by_.agent then [d.by_] else []):=by
 unfold ownK
 rw [List.take_length,ownR_step,List.append_assoc]
 rfl
theorem ownK_len (m:Md) (d:Ed) (n k:Nat):(ownK m d n k).length≤(ownR m d n).length+m.O.length:=by
 unfold ownK
 rw [List.length_append]
 have:((m.O.take k).filter fun x=>decide (x.agent=(n:Int)+1)&&decide ((n:Int)+1≠d.by_.agent)).length≤(m.O.take k).length:=List.length_filter_le _ _
 rw [List.length_take] at this
 omega
theorem ownR_len (m:Md) (d:Ed):∀ n,(ownR m d n).length≤n*(m.O.length+1)
 | 0=>by simp [ownR]
 | n+1=>by
  rw [ownK_end,List.length_append,Nat.succ_mul]
  have h1:=ownR_len m d n
  have h2:=ownK_len m d n m.O.length
  have h3:(if (n:Int)+1=d.by_.agent then [d.by_] else []).length≤1:=by split<;>simp
  omega
def cutA (A:Option Addr) (c k size:Nat):Option Addr:=if c=k then A else A.map (·.add (k*size))
theorem Reads.cutA_ {w:World} {B size n:Nat} {A:Option Addr} {xs:List Value} (h:Reads w B size A n xs) {k cap:Nat} (hk:k≤n) (hc:n≤cap):Reads w B size (cutA A cap k size) (n-k) (xs.drop (k*size)):=h.cut hk hc
set_option maxRecDepth 100000 in
theorem slice9_at (w:World) (A:Option Addr) (n c k:Nat) (h:k≤n) (_hc:n≤c) :
  (Instr.slice 22 (.slice A n c) (some (.int .i64 (k:Int))) none none).run Tryz.prog w=.ok (.slice (cutA A c k 9) (n-k) (c-k)) w:=by
 unfold cutA
 have e:((k:Int)).toNat=k:=by omega
 obtain ⟨i,hi,_,hs,_⟩:=info_parts Tryz.infoEn
 have hE:Tryz.prog.elem 22=85:=by kernel_rfl
 rw [run_slice_l w _ A n c Tryz.underlying22 .i64 _ (by omega) (by omega)]
 rw [hE]
 simp [sliced,Result.andThen,e,sizeOf,typeInfo,hi,hs]
theorem fin_apply {w wx:World} {m:Md} {d:Ed} {A' A2 A3:Option Addr} {c' c2 c3 n bE bM bO:Nat} (hA:appE m d=0) (hn:n=(ents m d).length)
  (hE:wx.ownsRow bE 85 9 (.slice A' n c') n ((ents m d).flatMap En.cs))
  (hM:wx.ownsRow bM 90 2 (.slice A2 (mrks m d).length c2) (mrks m d).length ((mrks m d).flatMap Mk.cs))
  (hO:wx.ownsRow bO 26 3 (.slice A3 (putL Ow.agent d.by_ m.O).length c3) (putL Ow.agent d.by_ m.O).length ((putL Ow.agent d.by_ m.O).flatMap Ow.cs))
  (h1:w.heap.size+2<bE) (h2:w.heap.size+2<bM) (h3:w.heap.size+2<bO) (hb:Below w.heap.size w wx) :
  RetAp w (appM m d) (appE m d) (.returned (.tuple #[.agg #[.int .i64 (m.gen+1),.int .i64 (maxI m.cut d.cut),.int .i64 (maxI m.fence d.fence),.slice A' n c',.slice A2 (mrks m d).length c2,.slice A3 (putL Ow.agent d.by_ m.O).length c3],.int .i64 0])) (set6 wx (w.heap.size+2) (.int .i64 (m.gen+1)) (.int .i64 (maxI m.cut d.cut)) (.int .i64 (maxI m.fence d.fence)) (.slice A' n c') (.slice A2 (mrks m d).length c2) (.slice A3 (putL Ow.agent d.by_ m.O).length c3)):=by
 have hO4:=set6_only (Only.refl (w.heap.size+2) wx) (.int .i64 (m.gen+1)) (.int .i64 (maxI m.cut d.cut)) (.int .i64 (maxI m.fence d.fence)) (.slice A' n c') (.slice A2 (mrks m d).length c2) (.slice A3 (putL Ow.agent d.by_ m.O).length c3)
 exact ret_ok hA hn (own_mono (own_only hE hO4 h1) (by omega)) (own_mono (own_only hM hO4 h2) (by omega)) (own_mono (own_only hO hO4 h3) (by omega)) (set6_below hb (by omega) _ _ _ _ _ _)
set_option maxRecDepth 100000 in
set_option maxHeartbeats 25600000 in
theorem applyR_calls (w:World) {B:Nat} {m:Md} {p:Pl} {d:Ed} {q:Pd} (h:Man w B m p) (hd:Edi w B d q) (hB:B≤w.heap.size) (hs:Short m.E) (hsd:Short d.add) (hna:d.add.length≤1000000):Calls Tryz.prog 26 #[mdV m p,edV d q] w (RetAp w (appM m d) (appE m d)):=by
 have HT:=Jh fun W=>wmz_at w m p d q (W:=W)
 have HZ:=Jh fun W=>wmz_blk w m p d q (W:=W)
 have HB0:=Jh fun W=>wmz_below w m p d q (W:=W)
 have HRf:=Jh fun W (hW:Below w.heap.size w W)=>refusedR_calls W (h.below (hW.mono hB)) (hd.below (hW.mono hB)) (by have:=hW.size;omega) hs hsd
 have HSq:=Jh fun W (hW:Below w.heap.size w W) k=>seqR_of W (h.below (hW.mono hB)) (by have:=hW.size;omega) k
 have HHa:=Jh fun W (hW:Below w.heap.size w W) k=>has_calls W (c:=q.cD) k (hd.rd.below (hW.mono hB)) hd.ld
 have HRE:=Jh fun W (hW:Below w.heap.size w W)=>h.re.below (hW.mono hB)
 have HRO:=Jh fun W (hW:Below w.heap.size w W)=>h.ro.below (hW.mono hB)
 have HRA:=Jh fun W (hW:Below w.heap.size w W)=>hd.ra.below (hW.mono hB)
 have HRM:=Jh fun W (hW:Below w.heap.size w W)=>hd.rm.below (hW.mono hB)
 have hle:=h.le
 have hlo:=h.lo
 have hlm:=hd.lm
 have HWm:Hid (wmz w m p d q=((w.alloc (.cells #[.int .i64 m.gen,.int .i64 m.cut,.int .i64 m.fence,.slice p.AE m.E.length p.cE,.slice p.AM m.M.length p.cM,.slice p.AO m.O.length p.cO] 53)).alloc (.cells #[.slice q.AA d.add.length q.cA,.slice q.AD d.drop.length q.cD,.slice q.AM d.marks.length q.cM,.int .i64 d.cut,.int .i64 d.fence,.int .i64 d.by_.agent,.int .i64 d.by_.life,.int .i64 d.by_.count] 28)).alloc (.cells #[.int .i64 0,.int .i64 0,.int .i64 0,.slice none 0 0,.slice none 0 0,.slice none 0 0] 53)):=Jh rfl
 have HBw:=Jh hB
 clear h hd hs hsd
 obtain ⟨AE,cE,AM,cM,AO,cO⟩:=p
 obtain ⟨DA,c1,DD,c2,DM,c3⟩:=q
 dsimp only at *
 have HW1:=Jh (Below.refl (w.heap.size+3) (wmz w m ⟨AE,cE,AM,cM,AO,cO⟩ d ⟨DA,c1,DD,c2,DM,c3⟩))
 go_enter Tryz.func26,Tryz.ntmps26
 go_wp2_with fail
 rw [← HWm.out]
 clear HWm
 generalize wmz w m ⟨AE,cE,AM,cM,AO,cO⟩ d ⟨DA,c1,DD,c2,DM,c3⟩=wm at *
 have hb0:=HB0.out _ HW1.out
 generalize her:refE m d=er at *
 have HEr:=Jh her
 clear her
 refine (HRf.out _ hb0.1).mono ?_
 rintro e w1 ⟨rfl,hb1⟩
 have HE:Hid (Below (w.heap.size+3) wm w1):=Jh (hb1.mono hb0.2)
 have hb2:=HB0.out _ HE.out
 obtain ⟨⟨⟨s0,s1,s2,s3,s4,s5⟩,⟨t0,t1,t2,t3,t4,t5,t6,t7⟩⟩,⟨⟨z0,z1,z2,z3,z4,z5⟩,⟨y0,y1,y2,y3,y4,y5⟩⟩⟩:=HT.out _ HE.out
 have hmx1:=fun ats ty W=>max_run (P:=Tryz.prog) ats ty m.cut d.cut W
 have hmx2:=fun ats ty W=>max_run (P:=Tryz.prog) ats ty m.fence d.fence W
 clear hb1 HW1 hb0
 by_cases h0:er=0
 ·have f0:(er != 0)=false:=nef h0
  subst h0
  have hF:=(refE_fine.1 HEr.out).f
  have HF:=Jh hF
  have hle2:=hF.r.lenE
  have n1:IntKind.i64.wrap (m.gen+1)=m.gen+1:=IntWalk.i64_in _ (by have:=hF.r.gen;omega)
  clear hF
  have HB9:=Jh (Blk.new w1 53 #[.int .i64 (m.gen+1),.int .i64 (maxI m.cut d.cut),.int .i64 (maxI m.fence d.fence),.slice none 0 0,.slice none 0 0,.slice none 0 0])
  have hWo:Below (w.heap.size+3) wm (w1.alloc (.cells #[.int .i64 (m.gen+1),.int .i64 (maxI m.cut d.cut),.int .i64 (maxI m.fence d.fence),.slice none 0 0,.slice none 0 0,.slice none 0 0] 53)):=HE.out.alloc hb2.2 _
  have hWr:Below (w.heap.size+3) wm ((w1.alloc (.cells #[.int .i64 (m.gen+1),.int .i64 (maxI m.cut d.cut),.int .i64 (maxI m.fence d.fence),.slice none 0 0,.slice none 0 0,.slice none 0 0] 53)).alloc (.cells #[] 85)):=hWo.alloc (by simp;omega) _
  have HRd:=Jh (HRA.out _ (HB0.out _ hWr).1)
  have HMd:Hid (((w1.alloc (.cells #[.int .i64 (m.gen+1),.int .i64 (maxI m.cut d.cut),.int .i64 (maxI m.fence d.fence),.slice none 0 0,.slice none 0 0,.slice none 0 0] 53)).alloc (.cells #[] 85)).ownsRow (w1.heap.size+1) 85 9 (.slice (some ⟨w1.heap.size+1,0,none⟩) 0 0) 0 []):=Jh (by
   have:=World.ownsRow_made (base:=w1.heap.size+1) (e:=85) (size:=9) (w1.alloc (.cells #[.int .i64 (m.gen+1),.int .i64 (maxI m.cut d.cut),.int .i64 (maxI m.fence d.fence),.slice none 0 0,.slice none 0 0,.slice none 0 0] 53)) #[] 0 (by simp) (Nat.zero_le _) rfl
   simpa using this)
  have HWr:=Jh hWr
  have hz9:w1.heap.size+1≤((w1.alloc (.cells #[.int .i64 (m.gen+1),.int .i64 (maxI m.cut d.cut),.int .i64 (maxI m.fence d.fence),.slice none 0 0,.slice none 0 0,.slice none 0 0] 53)).alloc (.cells #[] 85)).heap.size:=by simp
  have hgq:w.heap.size+3≤w1.heap.size:=hb2.2
  have hg1:w.heap.size+1<w1.heap.size:=by omega
  have hg1s:w.heap.size+1<w1.heap.size+1:=by omega
  clear hWo hWr z0 z1 z2 z3 z4 z5 y0 y1 y2 y3 y4 y5
  go_wp2_with (at_builtin;go_must (refine wpList_append_sl _ rfl (.tmp 43) (.tmp 45) _ rfl (w1.heap.size+1) 85 _ 9 88 Tryz.underlying22 Tryz.infoEn rfl (by omega) _ _ _ rfl HMd.out B DA d.add.length c1 (d.add.flatMap En.cs) rfl HRd.out (ecs_one _) (by unfold maxLen;omega) (by omega) hz9 ?_))
  intro A8 c8 w2 hc81 hc82 hrd8 hbel8 hown8 _ _
  have HO2:Hid (w2.ownsRow (w1.heap.size+1) 85 9 (.slice A8 (allK m d 0).length c8) (allK m d 0).length ((allK m d 0).flatMap En.cs)):=Jh (by rw [allK_zero];simpa using hown8)
  have HB2:Hid (Blk w2 w1.heap.size 53 #[.int .i64 (m.gen+1),.int .i64 (maxI m.cut d.cut),.int .i64 (maxI m.fence d.fence),.slice none 0 0,.slice none 0 0,.slice none 0 0]):=Jh ((HB9.out.alloc (.cells #[] 85)).below hbel8 (Nat.lt_succ_self _))
  have HW2:Hid (Below (w.heap.size+3) wm w2):=Jh (HWr.out.trans (hbel8.mono (by omega)))
  have hz2:w1.heap.size+1≤w2.heap.size:=Nat.le_trans hz9 hbel8.size
  have h2:=HB0.out _ HW2.out
  clear s0 s1 s2 s3 s4 s5 t0 t1 t2 t3 t4 t5 t6 t7
  obtain ⟨⟨⟨s0,s1,s2,s3,s4,s5⟩,⟨t0,t1,t2,t3,t4,t5,t6,t7⟩⟩,-⟩:=HT.out _ HW2.out
  clear hg1 hg1s hc81 hc82 hrd8 hbel8 hown8 HB9 HRd HMd HWr hz9 hmx1 hmx2 n1 f0 HE hb2 HRA
  generalize w1.heap.size=gq at *
  go_wp2
  go_loopw [8,50] (fun out i wr=>∃ (j:Nat) (A:Option Addr) (c:Nat),j≤m.E.length∧i=.int .i64 (j:Int)∧out=.slice A (allK m d j).length c∧Hid (wr.ownsRow (gq+1) 85 9 (.slice A (allK m d j).length c) (allK m d j).length ((allK m d j).flatMap En.cs))∧Hid (Blk wr gq 53 #[.int .i64 (m.gen+1),.int .i64 (maxI m.cut d.cut),.int .i64 (maxI m.fence d.fence),.slice none 0 0,.slice none 0 0,.slice none 0 0])∧Hid (Below (w.heap.size+3) wm wr)∧gq+1≤wr.heap.size) (fun _ i _=>m.E.length-(intOf i).toNat)
  case atStart=>exact ⟨0,A8,c8,Nat.zero_le _,rfl,by rw [allK_zero],HO2,HB2,HW2,hz2⟩
  case round =>
   clear HO2 HB2 HW2 hz2 h2 s0 s1 s2 s3 s4 s5 t0 t1 t2 t3 t4 t5 t6 t7
   obtain ⟨j,A,c,hj,rfl,rfl,HO,HBk,HW,hz⟩:=hrel
   have h3:=HB0.out _ HW.out
   obtain ⟨⟨⟨s0,s1,s2,s3,s4,s5⟩,⟨t0,t1,t2,t3,t4,t5,t6,t7⟩⟩,-⟩:=HT.out _ HW.out
   have hg1:w.heap.size+1<wr.heap.size:=by omega
   by_cases hlt:j<m.E.length
   ·have hr:=HRE.out wr h3.1
    obtain ⟨b,off,rfl,hbB⟩:=row_addr hr (by omega)
    obtain ⟨p0,p1,p2,p3,p4,p5,p6,p7,p8⟩:wr.cell? ⟨b,off+j*9,none⟩=some (.string (gt m.E j).key)∧wr.cell? ⟨b,off+j*9+1,none⟩=some (.int .i64 (gt m.E j).window)∧wr.cell? ⟨b,off+j*9+2,none⟩=some (.string (gt m.E j).part)∧wr.cell? ⟨b,off+j*9+3,none⟩=some (.int .i64 (gt m.E j).first)∧wr.cell? ⟨b,off+j*9+4,none⟩=some (.int .i64 (gt m.E j).last)∧wr.cell? ⟨b,off+j*9+5,none⟩=some (.int .i64 (gt m.E j).rows)∧wr.cell? ⟨b,off+j*9+6,none⟩=some (.int .i64 (gt m.E j).size)∧wr.cell? ⟨b,off+j*9+7,none⟩=some (.int .u32 (gt m.E j).sum)∧wr.cell? ⟨b,off+j*9+8,none⟩=some (.int .i64 (gt m.E j).born):=⟨row_cell ecs_len hr hlt (j:=0) rfl,row_cell ecs_len hr hlt (j:=1) rfl,row_cell ecs_len hr hlt (j:=2) rfl,row_cell ecs_len hr hlt (j:=3) rfl,row_cell ecs_len hr hlt (j:=4) rfl,row_cell ecs_len hr hlt (j:=5) rfl,row_cell ecs_len hr hlt (j:=6) rfl,row_cell ecs_len hr hlt (j:=7) rfl,row_cell ecs_len hr hlt (j:=8) rfl⟩
    have hW3:Below (w.heap.size+3) wm (wr.alloc (.cells #[.string (gt m.E j).key,.int .i64 (gt m.E j).window,.string (gt m.E j).part,.int .i64 (gt m.E j).first,.int .i64 (gt m.E j).last,.int .i64 (gt m.E j).rows,.int .i64 (gt m.E j).size,.int .u32 (gt m.E j).sum,.int .i64 (gt m.E j).born] 85)):=HW.out.alloc h3.2 _
    have HHa2:=Jh (HHa.out _ (HB0.out _ hW3).1 (gt m.E j).key)
    have HSt:=Jh (allK_step (d:=d) hlt)
    have hln:=allK_len m d j
    have HO2:=Jh (HO.out.alloc (.cells #[.string (gt m.E j).key,.int .i64 (gt m.E j).window,.string (gt m.E j).part,.int .i64 (gt m.E j).first,.int .i64 (gt m.E j).last,.int .i64 (gt m.E j).rows,.int .i64 (gt m.E j).size,.int .u32 (gt m.E j).sum,.int .i64 (gt m.E j).born] 85))
    have HB2:=Jh (HBk.out.alloc (.cells #[.string (gt m.E j).key,.int .i64 (gt m.E j).window,.string (gt m.E j).part,.int .i64 (gt m.E j).first,.int .i64 (gt m.E j).last,.int .i64 (gt m.E j).rows,.int .i64 (gt m.E j).size,.int .u32 (gt m.E j).sum,.int .i64 (gt m.E j).born] 85))
    have HW3:=Jh hW3
    have hz3:gq+1≤(wr.alloc (.cells #[.string (gt m.E j).key,.int .i64 (gt m.E j).window,.string (gt m.E j).part,.int .i64 (gt m.E j).first,.int .i64 (gt m.E j).last,.int .i64 (gt m.E j).rows,.int .i64 (gt m.E j).size,.int .u32 (gt m.E j).sum,.int .i64 (gt m.E j).born] 85)).heap.size:=by simp;omega
    have h4:=HB0.out _ hW3
    clear hr hW3
    generalize gt m.E j=x at *
    generalize allK m d j=L at *
    cases hh:hasB d.drop x.key
    ·have HN:Hid (allK m d (j+1)=L++[x]):=Jh (by rw [HSt.out,hh];rfl)
     rw [hh] at HHa2
     clear hh HSt
     go_wp2_with fail
     refine HHa2.out.mono ?_
     rintro e w4 ⟨rfl,rfl⟩
     have hrd:Reads ((wr.alloc (.cells #[.string x.key,.int .i64 x.window,.string x.part,.int .i64 x.first,.int .i64 x.last,.int .i64 x.rows,.int .i64 x.size,.int .u32 x.sum,.int .i64 x.born] 85)).alloc (.cells #[.string x.key,.int .i64 x.window,.string x.part,.int .i64 x.first,.int .i64 x.last,.int .i64 x.rows,.int .i64 x.size,.int .u32 x.sum,.int .i64 x.born] 85)) (wr.heap.size+1+1) 9 (some ⟨wr.heap.size+1,0,none⟩) 1 x.cs:=by
      have:=Reads.made (n:=1) (size:=9) (wr.alloc (.cells #[.string x.key,.int .i64 x.window,.string x.part,.int .i64 x.first,.int .i64 x.last,.int .i64 x.rows,.int .i64 x.size,.int .u32 x.sum,.int .i64 x.born] 85)) #[.string x.key,.int .i64 x.window,.string x.part,.int .i64 x.first,.int .i64 x.last,.int .i64 x.rows,.int .i64 x.size,.int .u32 x.sum,.int .i64 x.born] 85 rfl
      rw [World.size_alloc] at this
      exact this
     go_wp2_with (at_builtin;go_must (refine wpList_append_sl _ rfl (.tmp 60) (.tmp 62) _ rfl (gq+1) 85 _ 9 88 Tryz.underlying22 Tryz.infoEn rfl (by omega) _ _ _ rfl (HO2.out.alloc _) (wr.heap.size+1+1) _ 1 1 _ rfl hrd (ecs1 x) (by unfold maxLen;omega) (by omega) (by simp;omega) ?_))
     intro A5 c5 w5 hc51 hc52 hr5 hbel5 hown5 _ _
     have e5:L.length+1=(allK m d (j+1)).length:=by rw [HN.out,List.length_append];rfl
     rw [e5] at hown5 ⊢
     have HO5:Hid (w5.ownsRow (gq+1) 85 9 (.slice A5 (allK m d (j+1)).length c5) (allK m d (j+1)).length ((allK m d (j+1)).flatMap En.cs)):=Jh (by
      have e6:(allK m d (j+1)).flatMap En.cs=L.flatMap En.cs++x.cs:=by rw [HN.out,List.flatMap_append];simp
      rw [e6]
      exact hown5)
     have HB5:=Jh ((HB2.out.alloc (.cells #[.string x.key,.int .i64 x.window,.string x.part,.int .i64 x.first,.int .i64 x.last,.int .i64 x.rows,.int .i64 x.size,.int .u32 x.sum,.int .i64 x.born] 85)).below hbel5 (Nat.lt_succ_self _))
     have HW5:Hid (Below (w.heap.size+3) wm w5):=Jh ((HW3.out.alloc h4.2 _).trans (hbel5.mono (by omega)))
     have hz5:gq+1≤w5.heap.size:=by have:=hbel5.size;simp at this;omega
     clear hc51 hc52 hr5 hbel5 hown5 hrd e5
     (try go_wp2)
     go_roundw
     case rel=>exact ⟨j+1,A5,c5,by omega,by go_num,rfl,HO5,HB5,HW5,hz5⟩
     case measure=>simp [intOf];omega
    ·have HN:Hid (allK m d (j+1)=L):=Jh (by rw [HSt.out,hh];rfl)
     rw [hh] at HHa2
     clear hh HSt
     go_wp2_with fail
     refine HHa2.out.mono ?_
     rintro e w4 ⟨rfl,rfl⟩
     go_wp2
     go_roundw
     case rel=>exact ⟨j+1,A,c,by omega,by go_num,by rw [HN.out],by rw [HN.out];exact HO2,HB2,HW3,hz3⟩
     case measure=>simp [intOf];omega
   obtain rfl:j=m.E.length:=by omega
   rw [allK_end] at HO ⊢
   have HL8:Hid ((d.add++kept m d).length≤1000256):=Jh (by have:=allK_len m d m.E.length;rw [allK_end] at this;omega)
   have HEnt:Hid (ents m d=entF (maxI m.cut d.cut) (d.add++kept m d) []):=Jh rfl
   generalize d.add++kept m d=L0 at *
   obtain ⟨wo,rfl⟩:∃ wo:World,wo=wr:=⟨_,rfl⟩
   have hl8:=HL8.out
   have hgwo:gq<wo.heap.size:=by omega
   go_wp2
   go_loopw [67] (fun i wr=>∃ (j:Nat) (K:List En) (A':Option Addr) (c':Nat),j≤L0.length∧i=.int .i64 (j:Int)∧K.length≤j∧Hid (entF (maxI m.cut d.cut) (L0.take j) []=K)∧Hid (wr.ownsRow (gq+1) 85 9 (.slice A L0.length c) L0.length (L0.flatMap En.cs))∧Hid (wr.ownsRow wo.heap.size 85 9 (.slice A' K.length c') K.length (K.flatMap En.cs))∧Hid (Blk wr gq 53 #[.int .i64 (m.gen+1),.int .i64 (maxI m.cut d.cut),.int .i64 (maxI m.fence d.fence),.slice A' K.length c',.slice none 0 0,.slice none 0 0])∧Hid (Below (w.heap.size+3) wm wr)∧wo.heap.size≤wr.heap.size) (fun i _=>L0.length-(intOf i).toNat)
   case atStart=>exact ⟨0,[],none,0,Nat.zero_le _,rfl,Nat.zero_le _,Jh rfl,HO,Jh (World.ownsRow_nil _ _ _ _),HBk,HW,Nat.le_refl _⟩
   case round =>
    clear HO HBk HW hz h3 hg1 s0 s1 s2 s3 s4 s5 t0 t1 t2 t3 t4 t5 t6 t7
    obtain ⟨j,K,A',c',hj,rfl,hKj,HKe,HO,HOK,HBk,HW,hz⟩:=hrel
    obtain ⟨wp,rfl⟩:∃ wp:World,wp=wr:=⟨_,rfl⟩
    obtain ⟨q1,q3⟩:wp.cell? ⟨gq,1,none⟩=some (.int .i64 (maxI m.cut d.cut))∧wp.cell? ⟨gq,3,none⟩=some (.slice A' K.length c'):=⟨HBk.out.cell 1,HBk.out.cell 3⟩
    have hgwp:gq<wp.heap.size:=by omega
    by_cases hlt:j<L0.length
    ·have hr:=Reads.of_own HO.out
     obtain ⟨b,off,rfl,hbB⟩:=row_addr hr (by omega)
     obtain ⟨p0,p1,p2,p3,p4,p5,p6,p7,p8⟩:wp.cell? ⟨b,off+j*9,none⟩=some (.string (gt L0 j).key)∧wp.cell? ⟨b,off+j*9+1,none⟩=some (.int .i64 (gt L0 j).window)∧wp.cell? ⟨b,off+j*9+2,none⟩=some (.string (gt L0 j).part)∧wp.cell? ⟨b,off+j*9+3,none⟩=some (.int .i64 (gt L0 j).first)∧wp.cell? ⟨b,off+j*9+4,none⟩=some (.int .i64 (gt L0 j).last)∧wp.cell? ⟨b,off+j*9+5,none⟩=some (.int .i64 (gt L0 j).rows)∧wp.cell? ⟨b,off+j*9+6,none⟩=some (.int .i64 (gt L0 j).size)∧wp.cell? ⟨b,off+j*9+7,none⟩=some (.int .u32 (gt L0 j).sum)∧wp.cell? ⟨b,off+j*9+8,none⟩=some (.int .i64 (gt L0 j).born):=⟨row_cell ecs_len hr hlt (j:=0) rfl,row_cell ecs_len hr hlt (j:=1) rfl,row_cell ecs_len hr hlt (j:=2) rfl,row_cell ecs_len hr hlt (j:=3) rfl,row_cell ecs_len hr hlt (j:=4) rfl,row_cell ecs_len hr hlt (j:=5) rfl,row_cell ecs_len hr hlt (j:=6) rfl,row_cell ecs_len hr hlt (j:=7) rfl,row_cell ecs_len hr hlt (j:=8) rfl⟩
     have HSt:Hid (entF (maxI m.cut d.cut) (L0.take (j+1)) []=stepE (maxI m.cut d.cut) K (gt L0 j)):=Jh (by rw [take_gt hlt,entF_snoc,HKe.out])
     have hKc:K.length≤c':=by rcases own_form HOK.out with ⟨_,a,b⟩|⟨_,_,a⟩<;>omega
     have hw3:w.heap.size+3≤wp.heap.size:=by omega
     clear hr HKe
     generalize gt L0 j=x at *
     have HO4:=Jh (HO.out.alloc (.cells #[.string x.key,.int .i64 x.window,.string x.part,.int .i64 x.first,.int .i64 x.last,.int .i64 x.rows,.int .i64 x.size,.int .u32 x.sum,.int .i64 x.born] 85))
     have HOK4:=Jh (HOK.out.alloc (.cells #[.string x.key,.int .i64 x.window,.string x.part,.int .i64 x.first,.int .i64 x.last,.int .i64 x.rows,.int .i64 x.size,.int .u32 x.sum,.int .i64 x.born] 85))
     have HB4:=Jh (HBk.out.alloc (.cells #[.string x.key,.int .i64 x.window,.string x.part,.int .i64 x.first,.int .i64 x.last,.int .i64 x.rows,.int .i64 x.size,.int .u32 x.sum,.int .i64 x.born] 85))
     have HX4:=Jh (Blk.new wp 85 #[.string x.key,.int .i64 x.window,.string x.part,.int .i64 x.first,.int .i64 x.last,.int .i64 x.rows,.int .i64 x.size,.int .u32 x.sum,.int .i64 x.born])
     have HW4:Hid (Below (w.heap.size+3) wm (wp.alloc (.cells #[.string x.key,.int .i64 x.window,.string x.part,.int .i64 x.first,.int .i64 x.last,.int .i64 x.rows,.int .i64 x.size,.int .u32 x.sum,.int .i64 x.born] 85))):=Jh (HW.out.alloc hw3 _)
     have hsz4:(wp.alloc (.cells #[.string x.key,.int .i64 x.window,.string x.part,.int .i64 x.first,.int .i64 x.last,.int .i64 x.rows,.int .i64 x.size,.int .u32 x.sum,.int .i64 x.born] 85)).heap.size=wp.heap.size+1:=by simp
     by_cases e0:x.window<maxI m.cut d.cut
     ·have f0:decide (x.window<maxI m.cut d.cut)=true:=dct e0
      have HK2:Hid (entF (maxI m.cut d.cut) (L0.take (j+1)) []=K):=Jh (by rw [HSt.out];unfold stepE;rw [if_pos e0])
      clear e0 HSt
      go_wp2
      go_roundw
      case rel=>exact ⟨j+1,K,A',c',by omega,by go_num,by omega,HK2,HO4,HOK4,HB4,HW4,by omega⟩
      case measure=>simp [intOf];omega
     ·have f0:decide (x.window<maxI m.cut d.cut)=false:=dcf e0
      have HK2:Hid (entF (maxI m.cut d.cut) (L0.take (j+1)) []=insK x K):=Jh (by rw [HSt.out];unfold stepE;rw [if_neg e0])
      clear e0 HSt
      go_wp2
      clear f0 HO HOK HBk HW p0 p1 p2 p3 p4 p5 p6 p7 p8 q1 q3
      generalize wp.alloc (.cells #[.string x.key,.int .i64 x.window,.string x.part,.int .i64 x.first,.int .i64 x.last,.int .i64 x.rows,.int .i64 x.size,.int .u32 x.sum,.int .i64 x.born] 85)=w4 at *
      have hgq4:gq<w4.heap.size:=by omega
      have hx4:wp.heap.size<w4.heap.size:=by omega
      have hw34:w.heap.size+3≤w4.heap.size:=by omega
      go_loopw [13] (fun vn wx=>∃ n:Nat,n≤K.length∧vn=.int .i64 (n:Int)∧Hid (∀ i,i<n→ltE (gt K i) x=true)∧Hid (Below w4.heap.size w4 wx)) (fun vn _=>K.length-(intOf vn).toNat)
      case atStart=>exact ⟨0,Nat.zero_le _,rfl,Jh fun i hi=>absurd hi (Nat.not_lt_zero i),Jh (Below.refl _ _)⟩
      case round =>
       obtain ⟨n,hnK,rfl,HQ,Hb4⟩:=hrel
       have hs4:=Hb4.out.size
       have hxr:=HX4.out.below Hb4.out hx4
       have hbr:=HB4.out.below Hb4.out hgq4
       obtain ⟨z0,z1,z2,z3,z4,z5,z6,z7,z8⟩:wr.cell? ⟨wp.heap.size,0,none⟩=some (.string x.key)∧wr.cell? ⟨wp.heap.size,1,none⟩=some (.int .i64 x.window)∧wr.cell? ⟨wp.heap.size,2,none⟩=some (.string x.part)∧wr.cell? ⟨wp.heap.size,3,none⟩=some (.int .i64 x.first)∧wr.cell? ⟨wp.heap.size,4,none⟩=some (.int .i64 x.last)∧wr.cell? ⟨wp.heap.size,5,none⟩=some (.int .i64 x.rows)∧wr.cell? ⟨wp.heap.size,6,none⟩=some (.int .i64 x.size)∧wr.cell? ⟨wp.heap.size,7,none⟩=some (.int .u32 x.sum)∧wr.cell? ⟨wp.heap.size,8,none⟩=some (.int .i64 x.born):=⟨hxr.cell 0,hxr.cell 1,hxr.cell 2,hxr.cell 3,hxr.cell 4,hxr.cell 5,hxr.cell 6,hxr.cell 7,hxr.cell 8⟩
       have q3:wr.cell? ⟨gq,3,none⟩=some (.slice A' K.length c'):=hbr.cell 3
       have n0:(0:Int)≤(n:Int):=by omega
       clear hxr hbr
       by_cases hnl:n<K.length
       ·have hrK:=Reads.of_own (own_below HOK4.out Hb4.out)
        obtain ⟨b2,off2,rfl,hbB2⟩:=row_addr hrK (by omega)
        obtain ⟨y0,y1,y2,y3,y4,y5,y6,y7,y8⟩:wr.cell? ⟨b2,off2+n*9,none⟩=some (.string (gt K n).key)∧wr.cell? ⟨b2,off2+n*9+1,none⟩=some (.int .i64 (gt K n).window)∧wr.cell? ⟨b2,off2+n*9+2,none⟩=some (.string (gt K n).part)∧wr.cell? ⟨b2,off2+n*9+3,none⟩=some (.int .i64 (gt K n).first)∧wr.cell? ⟨b2,off2+n*9+4,none⟩=some (.int .i64 (gt K n).last)∧wr.cell? ⟨b2,off2+n*9+5,none⟩=some (.int .i64 (gt K n).rows)∧wr.cell? ⟨b2,off2+n*9+6,none⟩=some (.int .i64 (gt K n).size)∧wr.cell? ⟨b2,off2+n*9+7,none⟩=some (.int .u32 (gt K n).sum)∧wr.cell? ⟨b2,off2+n*9+8,none⟩=some (.int .i64 (gt K n).born):=⟨row_cell ecs_len hrK hnl (j:=0) rfl,row_cell ecs_len hrK hnl (j:=1) rfl,row_cell ecs_len hrK hnl (j:=2) rfl,row_cell ecs_len hrK hnl (j:=3) rfl,row_cell ecs_len hrK hnl (j:=4) rfl,row_cell ecs_len hrK hnl (j:=5) rfl,row_cell ecs_len hrK hnl (j:=6) rfl,row_cell ecs_len hrK hnl (j:=7) rfl,row_cell ecs_len hrK hnl (j:=8) rfl⟩
        have d0:decide ((n:Int)<(K.length:Int))=true:=dct (by omega)
        have n1:(n:Int)<(K.length:Int):=by omega
        clear hrK
        cases hlc:ltE (gt K n) x
        ·have HM:Hid (insK x K=K.take n++[x]++K.drop n):=Jh (by rw [insK_pos,posK_at hnK HQ.out (fun _=>hlc)])
         have hlb:Op.bytesLess (gt K n).key.toList x.key.toList=false:=by rw [← ltS_less];exact hlc
         clear hlc
         go_wp2_with fail
         go_quiet (fail)
         have he5:Below wr.heap.size wr (wr.drewN nq):=below_drewN_ (Below.refl _ _) _
         generalize wr.drewN nq=w5 at *
         clear d0 n1 n0 hlb z0 z1 z2 z3 z4 z5 z6 z7 z8 y0 y1 y2 y3 y4 y5 y6 y7 y8 q3
         have hs5:=he5.size
         have hb45:Below w4.heap.size w4 w5:=Hb4.out.trans (he5.mono hs4)
         have hl45:=hb45.size
         have HO5:=Jh (own_below HO4.out hb45)
         have HK5:=Jh (own_below HOK4.out hb45)
         have HB5:=Jh (HB4.out.below hb45 hgq4)
         have hx5:=HX4.out.below hb45 hx4
         obtain ⟨z0,z1,z2,z3,z4,z5,z6,z7,z8⟩:w5.cell? ⟨wp.heap.size,0,none⟩=some (.string x.key)∧w5.cell? ⟨wp.heap.size,1,none⟩=some (.int .i64 x.window)∧w5.cell? ⟨wp.heap.size,2,none⟩=some (.string x.part)∧w5.cell? ⟨wp.heap.size,3,none⟩=some (.int .i64 x.first)∧w5.cell? ⟨wp.heap.size,4,none⟩=some (.int .i64 x.last)∧w5.cell? ⟨wp.heap.size,5,none⟩=some (.int .i64 x.rows)∧w5.cell? ⟨wp.heap.size,6,none⟩=some (.int .i64 x.size)∧w5.cell? ⟨wp.heap.size,7,none⟩=some (.int .u32 x.sum)∧w5.cell? ⟨wp.heap.size,8,none⟩=some (.int .i64 x.born):=⟨hx5.cell 0,hx5.cell 1,hx5.cell 2,hx5.cell 3,hx5.cell 4,hx5.cell 5,hx5.cell 6,hx5.cell 7,hx5.cell 8⟩
         have HX5:=Jh hx5
         have HW5:Hid (Below (w.heap.size+3) wm w5):=Jh (HW4.out.trans (hb45.mono hw34))
         have c3:=HB5.out.cell 3
         have hgq5:gq<w5.heap.size:=by omega
         have hwo5:wo.heap.size≤w5.heap.size:=by omega
         have HRd:=Jh (Reads.of_own HK5.out)
         have HRn:=Jh (show Reads (w5.alloc (.cells #[] 85)) w5.heap.size 9 (some ⟨b2,off2,none⟩) n ((K.take n).flatMap En.cs) by
          have:=HRd.out.take hnK
          rw [flat_take ecs_len] at this
          exact this.below ((Below.refl _ _).alloc (Nat.le_refl _) _))
         clear hx5 hb45 he5
         go_wp2_with (at_builtin;go_must (refine wpList_append_sl _ rfl (.tmp 94) (.tmp 98) _ rfl w5.heap.size 85 _ 9 88 Tryz.underlying22 Tryz.infoEn rfl (by omega) _ _ _ rfl (World.ownsRow_made w5 #[] 0 (Nat.le_refl _) (Nat.zero_le _) rfl) w5.heap.size _ n c' _ rfl HRn.out (ecs_one _) (by unfold maxLen;omega) (by omega) (by simp) ?_))
         intro A6 c6 w6 hc61 hc62 hrd6 hbel6 hown6 _ _
         have hown6':w6.ownsRow w5.heap.size 85 9 (.slice A6 n c6) n ((K.take n).flatMap En.cs):=by simpa using hown6
         have hb56:Below w5.heap.size w5 w6:=((Below.refl _ _).alloc (Nat.le_refl _) _).trans hbel6
         have hs6:=hb56.size
         have hx6:=HX5.out.below hb56 (by omega)
         obtain ⟨z0,z1,z2,z3,z4,z5,z6,z7,z8⟩:w6.cell? ⟨wp.heap.size,0,none⟩=some (.string x.key)∧w6.cell? ⟨wp.heap.size,1,none⟩=some (.int .i64 x.window)∧w6.cell? ⟨wp.heap.size,2,none⟩=some (.string x.part)∧w6.cell? ⟨wp.heap.size,3,none⟩=some (.int .i64 x.first)∧w6.cell? ⟨wp.heap.size,4,none⟩=some (.int .i64 x.last)∧w6.cell? ⟨wp.heap.size,5,none⟩=some (.int .i64 x.rows)∧w6.cell? ⟨wp.heap.size,6,none⟩=some (.int .i64 x.size)∧w6.cell? ⟨wp.heap.size,7,none⟩=some (.int .u32 x.sum)∧w6.cell? ⟨wp.heap.size,8,none⟩=some (.int .i64 x.born):=⟨hx6.cell 0,hx6.cell 1,hx6.cell 2,hx6.cell 3,hx6.cell 4,hx6.cell 5,hx6.cell 6,hx6.cell 7,hx6.cell 8⟩
         have HO6:=Jh hown6'
         have HB56:=Jh hb56
         have HRx:Hid (Reads (w6.alloc (.cells #[.string x.key,.int .i64 x.window,.string x.part,.int .i64 x.first,.int .i64 x.last,.int .i64 x.rows,.int .i64 x.size,.int .u32 x.sum,.int .i64 x.born] 85)) (w6.heap.size+1) 9 (some ⟨w6.heap.size,0,none⟩) 1 x.cs):=Jh (Reads.made (n:=1) (size:=9) w6 #[.string x.key,.int .i64 x.window,.string x.part,.int .i64 x.first,.int .i64 x.last,.int .i64 x.rows,.int .i64 x.size,.int .u32 x.sum,.int .i64 x.born] 85 rfl)
         clear hown6 hown6' hrd6 hbel6 hb56 hc61 hc62 c3 hx6
         go_wp2_with (at_builtin;go_must (refine wpList_append_sl _ rfl (.tmp 100) (.tmp 102) _ rfl w5.heap.size 85 _ 9 88 Tryz.underlying22 Tryz.infoEn rfl (by omega) _ _ _ rfl (HO6.out.alloc _) (w6.heap.size+1) _ 1 1 _ rfl HRx.out (ecs1 x) (by unfold maxLen;omega) (by omega) (by simp;omega) ?_))
         intro A7 c7 w7 hc71 hc72 hrd7 hbel7 hown7 _ _
         have hb57:Below w5.heap.size w5 w7:=(HB56.out.alloc (by omega) _).trans hbel7
         have hs7:=hb57.size
         have hcut:=Reads.cutA_ (k:=n) (cap:=c') (n:=K.length) (HRd.out.below (hb57.mono (by omega))) hnK hKc
         have hrun:=fun W=>slice9_at W (some ⟨b2,off2,none⟩) K.length c' n hnK hKc
         have c3:=(HB5.out.below hb57 hgq5).cell 3
         have HO7:=Jh hown7
         have HB57:=Jh hb57
         rw [flat_drop ecs_len] at hcut
         generalize cutA (some ⟨b2,off2,none⟩) c' n 9=AC at *
         have HCUT:=Jh hcut
         clear hown7 hrd7 hbel7 hb57 hc71 hc72 hcut
         go_wp2_with (at_builtin;go_must (refine wpList_append_sl _ rfl (.tmp 104) (.tmp 108) _ rfl w5.heap.size 85 _ 9 88 Tryz.underlying22 Tryz.infoEn rfl (by omega) _ _ _ rfl HO7.out w5.heap.size AC (K.length-n) (c'-n) _ rfl HCUT.out (ecs_one _) (by unfold maxLen;omega) (by omega) (by omega) ?_))
         intro A8 c8 w8 hc81 hc82 hrd8 hbel8 hown8 _ _
         have e8:n+1+(K.length-n)=(insK x K).length:=by rw [insK_len];omega
         rw [e8] at hown8 ⊢
         have hb58:=HB57.out.trans (hbel8.mono (by omega))
         have HOK8:Hid (w8.ownsRow wo.heap.size 85 9 (.slice A8 (insK x K).length c8) (insK x K).length ((insK x K).flatMap En.cs)):=Jh (by
          have:(insK x K).flatMap En.cs=(K.take n).flatMap En.cs++(x.cs++(K.drop n).flatMap En.cs):=by rw [HM.out,List.flatMap_append,List.flatMap_append];simp
          rw [this]
          exact own_base hown8 hwo5)
         have HOL8:=Jh (own_below HO5.out hb58)
         have hB8:=HB5.out.below hb58 hgq5
         have c3:=hB8.cell 3
         have f3:=hB8.frozen 3
         have HB8:=Jh hB8
         have HW8:Hid (Below (w.heap.size+3) wm w8):=Jh (HW5.out.trans (hb58.mono (by omega)))
         have hz8:wo.heap.size≤w8.heap.size:=by have:=hb58.size;omega
         clear hown8 hrd8 hbel8 e8 hrun hc82 hB8 hb58 hc81
         go_wp2
         have HOn:Hid (Only gq w8 (w8.setCell ⟨gq,3,none⟩ (.slice A8 (insK x K).length c8))):=Jh ((Only.refl gq w8).setCell (.inl rfl) _)
         have HB9:Hid (Blk (w8.setCell ⟨gq,3,none⟩ (.slice A8 (insK x K).length c8)) gq 53 #[.int .i64 (m.gen+1),.int .i64 (maxI m.cut d.cut),.int .i64 (maxI m.fence d.fence),.slice A8 (insK x K).length c8,.slice none 0 0,.slice none 0 0]):=Jh (by simpa using HB8.out.set_ 3 (.slice A8 (insK x K).length c8))
         go_roundw
         case rel=>exact ⟨j+1,insK x K,A8,c8,by omega,by go_num,by rw [insK_len];omega,HK2,Jh (own_only HOL8.out HOn.out (by omega)),Jh (own_only HOK8.out HOn.out hgwo),HB9,Jh (HW8.out.setCell hgq _),by simp;omega⟩
         case measure=>simp [intOf];omega
        ·have HQ2:Hid (∀ i,i<n+1→ltE (gt K i) x=true):=Jh fun i hi=>by
          rcases Nat.lt_or_ge i n with h1|h1
          ·exact HQ.out i h1
          ·obtain rfl:i=n:=by omega
           exact hlc
         have hlb:Op.bytesLess (gt K n).key.toList x.key.toList=true:=by rw [← ltS_less];exact hlc
         clear hlc
         go_wp2_with fail
         go_quiet (fail)
         go_wp2
         go_roundw
         case rel=>exact ⟨n+1,by omega,by go_num,HQ2,Jh (below_drewN_ Hb4.out _)⟩
         case measure=>simp [intOf];omega
       ·have d0:decide ((n:Int)<(K.length:Int))=false:=dcf (by omega)
        have HM:Hid (insK x K=K.take n++[x]++K.drop n):=Jh (by rw [insK_pos,posK_at hnK HQ.out (fun h=>absurd h hnl)])
        go_wp2_with fail
        go_quiet (fail)
        have he5:Below wr.heap.size wr (wr.drewN nq):=below_drewN_ (Below.refl _ _) _
        generalize wr.drewN nq=w5 at *
        clear d0 n0 z0 z1 z2 z3 z4 z5 z6 z7 z8 q3
        have hs5:=he5.size
        have hb45:Below w4.heap.size w4 w5:=Hb4.out.trans (he5.mono hs4)
        have hl45:=hb45.size
        have HO5:=Jh (own_below HO4.out hb45)
        have HK5:=Jh (own_below HOK4.out hb45)
        have HB5:=Jh (HB4.out.below hb45 hgq4)
        have hx5:=HX4.out.below hb45 hx4
        obtain ⟨z0,z1,z2,z3,z4,z5,z6,z7,z8⟩:w5.cell? ⟨wp.heap.size,0,none⟩=some (.string x.key)∧w5.cell? ⟨wp.heap.size,1,none⟩=some (.int .i64 x.window)∧w5.cell? ⟨wp.heap.size,2,none⟩=some (.string x.part)∧w5.cell? ⟨wp.heap.size,3,none⟩=some (.int .i64 x.first)∧w5.cell? ⟨wp.heap.size,4,none⟩=some (.int .i64 x.last)∧w5.cell? ⟨wp.heap.size,5,none⟩=some (.int .i64 x.rows)∧w5.cell? ⟨wp.heap.size,6,none⟩=some (.int .i64 x.size)∧w5.cell? ⟨wp.heap.size,7,none⟩=some (.int .u32 x.sum)∧w5.cell? ⟨wp.heap.size,8,none⟩=some (.int .i64 x.born):=⟨hx5.cell 0,hx5.cell 1,hx5.cell 2,hx5.cell 3,hx5.cell 4,hx5.cell 5,hx5.cell 6,hx5.cell 7,hx5.cell 8⟩
        have HX5:=Jh hx5
        have HW5:Hid (Below (w.heap.size+3) wm w5):=Jh (HW4.out.trans (hb45.mono hw34))
        have c3:=HB5.out.cell 3
        have hgq5:gq<w5.heap.size:=by omega
        have hwo5:wo.heap.size≤w5.heap.size:=by omega
        have HRd:=Jh (Reads.of_own HK5.out)
        have HRn:=Jh (show Reads (w5.alloc (.cells #[] 85)) w5.heap.size 9 A' n ((K.take n).flatMap En.cs) by
         have:=HRd.out.take hnK
         rw [flat_take ecs_len] at this
         exact this.below ((Below.refl _ _).alloc (Nat.le_refl _) _))
        clear hx5 hb45 he5
        go_wp2_with (at_builtin;go_must (refine wpList_append_sl _ rfl (.tmp 94) (.tmp 98) _ rfl w5.heap.size 85 _ 9 88 Tryz.underlying22 Tryz.infoEn rfl (by omega) _ _ _ rfl (World.ownsRow_made w5 #[] 0 (Nat.le_refl _) (Nat.zero_le _) rfl) w5.heap.size _ n c' _ rfl HRn.out (ecs_one _) (by unfold maxLen;omega) (by omega) (by simp) ?_))
        intro A6 c6 w6 hc61 hc62 hrd6 hbel6 hown6 _ _
        have hown6':w6.ownsRow w5.heap.size 85 9 (.slice A6 n c6) n ((K.take n).flatMap En.cs):=by simpa using hown6
        have hb56:Below w5.heap.size w5 w6:=((Below.refl _ _).alloc (Nat.le_refl _) _).trans hbel6
        have hs6:=hb56.size
        have hx6:=HX5.out.below hb56 (by omega)
        obtain ⟨z0,z1,z2,z3,z4,z5,z6,z7,z8⟩:w6.cell? ⟨wp.heap.size,0,none⟩=some (.string x.key)∧w6.cell? ⟨wp.heap.size,1,none⟩=some (.int .i64 x.window)∧w6.cell? ⟨wp.heap.size,2,none⟩=some (.string x.part)∧w6.cell? ⟨wp.heap.size,3,none⟩=some (.int .i64 x.first)∧w6.cell? ⟨wp.heap.size,4,none⟩=some (.int .i64 x.last)∧w6.cell? ⟨wp.heap.size,5,none⟩=some (.int .i64 x.rows)∧w6.cell? ⟨wp.heap.size,6,none⟩=some (.int .i64 x.size)∧w6.cell? ⟨wp.heap.size,7,none⟩=some (.int .u32 x.sum)∧w6.cell? ⟨wp.heap.size,8,none⟩=some (.int .i64 x.born):=⟨hx6.cell 0,hx6.cell 1,hx6.cell 2,hx6.cell 3,hx6.cell 4,hx6.cell 5,hx6.cell 6,hx6.cell 7,hx6.cell 8⟩
        have HO6:=Jh hown6'
        have HB56:=Jh hb56
        have HRx:Hid (Reads (w6.alloc (.cells #[.string x.key,.int .i64 x.window,.string x.part,.int .i64 x.first,.int .i64 x.last,.int .i64 x.rows,.int .i64 x.size,.int .u32 x.sum,.int .i64 x.born] 85)) (w6.heap.size+1) 9 (some ⟨w6.heap.size,0,none⟩) 1 x.cs):=Jh (Reads.made (n:=1) (size:=9) w6 #[.string x.key,.int .i64 x.window,.string x.part,.int .i64 x.first,.int .i64 x.last,.int .i64 x.rows,.int .i64 x.size,.int .u32 x.sum,.int .i64 x.born] 85 rfl)
        clear hown6 hown6' hrd6 hbel6 hb56 hc61 hc62 c3 hx6
        go_wp2_with (at_builtin;go_must (refine wpList_append_sl _ rfl (.tmp 100) (.tmp 102) _ rfl w5.heap.size 85 _ 9 88 Tryz.underlying22 Tryz.infoEn rfl (by omega) _ _ _ rfl (HO6.out.alloc _) (w6.heap.size+1) _ 1 1 _ rfl HRx.out (ecs1 x) (by unfold maxLen;omega) (by omega) (by simp;omega) ?_))
        intro A7 c7 w7 hc71 hc72 hrd7 hbel7 hown7 _ _
        have hb57:Below w5.heap.size w5 w7:=(HB56.out.alloc (by omega) _).trans hbel7
        have hs7:=hb57.size
        have hcut:=Reads.cutA_ (k:=n) (cap:=c') (n:=K.length) (HRd.out.below (hb57.mono (by omega))) hnK hKc
        have hrun:=fun W=>slice9_at W A' K.length c' n hnK hKc
        have c3:=(HB5.out.below hb57 hgq5).cell 3
        have HO7:=Jh hown7
        have HB57:=Jh hb57
        rw [flat_drop ecs_len] at hcut
        generalize cutA A' c' n 9=AC at *
        have HCUT:=Jh hcut
        clear hown7 hrd7 hbel7 hb57 hc71 hc72 hcut
        go_wp2_with (at_builtin;go_must (refine wpList_append_sl _ rfl (.tmp 104) (.tmp 108) _ rfl w5.heap.size 85 _ 9 88 Tryz.underlying22 Tryz.infoEn rfl (by omega) _ _ _ rfl HO7.out w5.heap.size AC (K.length-n) (c'-n) _ rfl HCUT.out (ecs_one _) (by unfold maxLen;omega) (by omega) (by omega) ?_))
        intro A8 c8 w8 hc81 hc82 hrd8 hbel8 hown8 _ _
        have e8:n+1+(K.length-n)=(insK x K).length:=by rw [insK_len];omega
        rw [e8] at hown8 ⊢
        have hb58:=HB57.out.trans (hbel8.mono (by omega))
        have HOK8:Hid (w8.ownsRow wo.heap.size 85 9 (.slice A8 (insK x K).length c8) (insK x K).length ((insK x K).flatMap En.cs)):=Jh (by
         have:(insK x K).flatMap En.cs=(K.take n).flatMap En.cs++(x.cs++(K.drop n).flatMap En.cs):=by rw [HM.out,List.flatMap_append,List.flatMap_append];simp
         rw [this]
         exact own_base hown8 hwo5)
        have HOL8:=Jh (own_below HO5.out hb58)
        have hB8:=HB5.out.below hb58 hgq5
        have c3:=hB8.cell 3
        have f3:=hB8.frozen 3
        have HB8:=Jh hB8
        have HW8:Hid (Below (w.heap.size+3) wm w8):=Jh (HW5.out.trans (hb58.mono (by omega)))
        have hz8:wo.heap.size≤w8.heap.size:=by have:=hb58.size;omega
        clear hown8 hrd8 hbel8 e8 hrun hc82 hB8 hb58 hc81
        go_wp2
        have HOn:Hid (Only gq w8 (w8.setCell ⟨gq,3,none⟩ (.slice A8 (insK x K).length c8))):=Jh ((Only.refl gq w8).setCell (.inl rfl) _)
        have HB9:Hid (Blk (w8.setCell ⟨gq,3,none⟩ (.slice A8 (insK x K).length c8)) gq 53 #[.int .i64 (m.gen+1),.int .i64 (maxI m.cut d.cut),.int .i64 (maxI m.fence d.fence),.slice A8 (insK x K).length c8,.slice none 0 0,.slice none 0 0]):=Jh (by simpa using HB8.out.set_ 3 (.slice A8 (insK x K).length c8))
        go_roundw
        case rel=>exact ⟨j+1,insK x K,A8,c8,by omega,by go_num,by rw [insK_len];omega,HK2,Jh (own_only HOL8.out HOn.out (by omega)),Jh (own_only HOK8.out HOn.out hgwo),HB9,Jh (HW8.out.setCell hgq _),by simp;omega⟩
        case measure=>simp [intOf];omega
    obtain rfl:j=L0.length:=by omega
    rw [List.take_length] at HKe
    have HEn:Hid (ents m d=K):=Jh (by rw [HEnt.out,HKe.out])
    have h6:=HB0.out _ HW.out
    clear HKe HEnt HL8 HO hl8 hlt q1 q3
    obtain ⟨⟨⟨s0,s1,s2,s3,s4,s5⟩,⟨t0,t1,t2,t3,t4,t5,t6,t7⟩⟩,⟨⟨z0,z1,z2,z3,z4,z5⟩,⟨y0,y1,y2,y3,y4,y5⟩⟩⟩:=HT.out _ HW.out
    have q3:wp.cell? ⟨gq,3,none⟩=some (.slice A' K.length c'):=HBk.out.cell 3
    by_cases hbig:256<K.length
    ·have f0:decide ((256:Int)<(K.length:Int))=true:=dct (by omega)
     have HV:Hid (appE m d=5):=Jh (by unfold appE;rw [if_neg (by rw [HEr.out];decide),if_pos (by rw [HEn.out];omega)])
     have HWo:=Jh h6
     clear hbig h6
     go_wp2
     refine bodyPost_ret (results_mf rfl _ _ (w.heap.size+2) 53 #[.int .i64 0,.int .i64 0,.int .i64 0,.slice none 0 0,.slice none 0 0,.slice none 0 0] _ _ rfl rfl (set6_blk (HZ.out _ HW.out) _ _ _ _ _ _) Tryz.underlying53 rfl (by kernel_rfl)) rfl ?_
     exact ret_err HV.out (by decide) (set6_below HWo.out.1 (by omega) _ _ _ _ _ _)
    have f0:decide ((256:Int)<(K.length:Int))=false:=dcf (by omega)
    have HAp:Hid (appE m d=0):=Jh (by unfold appE;rw [if_neg (by rw [HEr.out];decide),if_neg (by rw [HEn.out];omega)])
    have HEb:=Jh (show ∀ g,(Value.slice A' K.length c').ownBlock=some g→wo.heap.size≤g∧g<wp.heap.size from fun g hg=>HOK.out.lt g hg)
    go_wp2
    go_loopw [15] (fun v wr=>∃ (n:Nat) (A2:Option Addr) (c2:Nat),n≤64∧v=.int .i64 ((n:Int)+1)∧Hid (wr.ownsRow wo.heap.size 85 9 (.slice A' K.length c') K.length (K.flatMap En.cs))∧Hid (wr.ownsRow wp.heap.size 90 2 (.slice A2 (mrkR m d n).length c2) (mrkR m d n).length ((mrkR m d n).flatMap Mk.cs))∧Hid (Blk wr gq 53 #[.int .i64 (m.gen+1),.int .i64 (maxI m.cut d.cut),.int .i64 (maxI m.fence d.fence),.slice A' K.length c',.slice A2 (mrkR m d n).length c2,.slice none 0 0])∧Hid (Below (w.heap.size+3) wm wr)∧wp.heap.size≤wr.heap.size) (fun v _=>65-(intOf v).toNat)
    case atStart=>exact ⟨0,none,0,Nat.zero_le _,rfl,HOK,Jh (World.ownsRow_nil _ _ _ _),HBk,HW,Nat.le_refl _⟩
    case round =>
     clear HOK HBk HW h6 hz f0 q3 s0 s1 s2 s3 s4 s5 t0 t1 t2 t3 t4 t5 t6 t7 z0 z1 z2 z3 z4 z5 y0 y1 y2 y3 y4 y5
     obtain ⟨n,A2,c2,hn,rfl,HOE,HOM,HBk,HW,hz⟩:=hrel
     obtain ⟨wq,rfl⟩:∃ wq:World,wq=wr:=⟨_,rfl⟩
     have h6:=HB0.out _ HW.out
     obtain ⟨⟨⟨s0,s1,s2,s3,s4,s5⟩,⟨t0,t1,t2,t3,t4,t5,t6,t7⟩⟩,-⟩:=HT.out _ HW.out
     have hml:=mrkR_len m d n
     by_cases hlt:n<64
     ·have f1:decide ((n:Int)+1≤64)=true:=dct (by omega)
      have HSt:=Jh (mrkR_step m d n)
      have HSq2:=Jh (HSq.out wq h6.1 ((n:Int)+1))
      go_wp2_with fail
      refine HSq2.out.mono ?_
      rintro e w4 ⟨rfl,hb4⟩
      have HW4:Hid (Below (w.heap.size+3) wm w4):=Jh (HW.out.trans (hb4.mono (by omega)))
      clear HSq2 f1 s0 s1 s2 s3 s4 s5 t0 t1 t2 t3 t4 t5 t6 t7
      obtain ⟨-,⟨t0,t1,t2,t3,t4,t5,t6,t7⟩⟩:=(HT.out _ HW4.out).1
      have HB4:=Jh hb4
      have hs4:=hb4.size
      clear hb4
      go_wp2
      go_loopw [16,127] (fun vb vi wr=>∃ k:Nat,k≤d.marks.length∧vi=.int .i64 (k:Int)∧vb=.int .i64 (bestM ((n:Int)+1) (d.marks.take k) (seqL ((n:Int)+1) m.M))∧Hid (Below w4.heap.size w4 wr)) (fun _ vi _=>d.marks.length-(intOf vi).toNat)
      case atStart=>exact ⟨0,Nat.zero_le _,rfl,rfl,Jh (Below.refl _ _)⟩
      case round =>
       clear t0 t1 t2 t3 t4 t5 t6 t7
       obtain ⟨k,hk,rfl,rfl,HB5⟩:=hrel
       have hs5:=HB5.out.size
       have HW5:Hid (Below (w.heap.size+3) wm wr):=Jh (HW4.out.trans (HB5.out.mono (by omega)))
       by_cases hlk:k<d.marks.length
       ·have hr:=HRM.out wr (HB0.out _ HW5.out).1
        obtain ⟨b,off,rfl,hbB⟩:=row_addr hr (by omega)
        obtain ⟨p0,p1⟩:wr.cell? ⟨b,off+k*2,none⟩=some (.int .i64 (gt d.marks k).maker)∧wr.cell? ⟨b,off+k*2+1,none⟩=some (.int .i64 (gt d.marks k).seq):=⟨row_cell mcs_len hr hlk (j:=0) rfl,row_cell mcs_len hr hlk (j:=1) rfl⟩
        have HNx:Hid (bestM ((n:Int)+1) (d.marks.take (k+1)) (seqL ((n:Int)+1) m.M)=if (gt d.marks k).maker=(n:Int)+1 then maxI (bestM ((n:Int)+1) (d.marks.take k) (seqL ((n:Int)+1) m.M)) (gt d.marks k).seq else bestM ((n:Int)+1) (d.marks.take k) (seqL ((n:Int)+1) m.M)):=Jh (by rw [take_gt hlk,bestM_snoc])
        have HB6:Hid (Below w4.heap.size w4 (wr.alloc (.cells #[.int .i64 (gt d.marks k).maker,.int .i64 (gt d.marks k).seq] 90))):=Jh (HB5.out.alloc hs5 _)
        clear hr
        generalize gt d.marks k=x at *
        generalize bestM ((n:Int)+1) (d.marks.take k) (seqL ((n:Int)+1) m.M)=s0 at *
        have hmx:=fun ats ty W=>max_run (P:=Tryz.prog) ats ty s0 x.seq W
        by_cases e1:x.maker=(n:Int)+1
        ·have f1:(x.maker == (n:Int)+1)=true:=eqt e1
         have HN2:Hid (bestM ((n:Int)+1) (d.marks.take (k+1)) (seqL ((n:Int)+1) m.M)=maxI s0 x.seq):=Jh (by rw [HNx.out,if_pos e1])
         clear e1 HNx
         go_wp2
         go_roundw
         case rel=>exact ⟨k+1,by omega,by go_num,by rw [HN2.out],HB6⟩
         case measure=>simp [intOf];omega
        ·have f1:(x.maker == (n:Int)+1)=false:=eqf e1
         have HN2:Hid (bestM ((n:Int)+1) (d.marks.take (k+1)) (seqL ((n:Int)+1) m.M)=s0):=Jh (by rw [HNx.out,if_neg e1])
         clear e1 HNx hmx
         go_wp2
         go_roundw
         case rel=>exact ⟨k+1,by omega,by go_num,by rw [HN2.out],HB6⟩
         case measure=>simp [intOf];omega
       obtain rfl:k=d.marks.length:=by omega
       rw [List.take_length]
       have hbq5:Below wq.heap.size wq wr:=HB4.out.trans (HB5.out.mono hs4)
       have hlq5:=hbq5.size
       have HOE5:=Jh (own_below HOE.out hbq5)
       have HOM5:=Jh (own_below HOM.out hbq5)
       have hgq5:gq<wq.heap.size:=by omega
       have HB5:=Jh (HBk.out.below hbq5 hgq5)
       have hg5:gq<wr.heap.size:=by omega
       have hz5:wp.heap.size≤wr.heap.size:=by omega
       clear hbq5
       generalize hbs:bestM ((n:Int)+1) d.marks (seqL ((n:Int)+1) m.M)=bs at *
       by_cases e2:0<bs
       ·have f2:decide (0<bs)=true:=dct e2
        have HN2:Hid (mrkR m d (n+1)=mrkR m d n++[⟨(n:Int)+1,bs⟩]):=Jh (by rw [HSt.out];unfold mrk1;rw [hbs,if_pos e2])
        clear hbs e2 HSt
        generalize mrkR m d n=L at *
        generalize hL2:mrkR m d (n+1)=L2 at *
        have c4:=HB5.out.cell 4
        have HO6:=Jh (HOM5.out.alloc (.cells #[.int .i64 ((n:Int)+1),.int .i64 bs] 90))
        have hrd:Reads (wr.alloc (.cells #[.int .i64 ((n:Int)+1),.int .i64 bs] 90)) (wr.heap.size+1) 2 (some ⟨wr.heap.size,0,none⟩) 1 [.int .i64 ((n:Int)+1),.int .i64 bs]:=Reads.made (n:=1) (size:=2) wr #[.int .i64 ((n:Int)+1),.int .i64 bs] 90 rfl
        go_wp2_with (at_builtin;go_must (refine wpList_append_sl _ rfl (.tmp 143) (.tmp 147) _ rfl wp.heap.size 90 _ 2 16 Tryz.underlying24 Tryz.infoMk rfl (by omega) _ _ _ rfl HO6.out (wr.heap.size+1) _ 1 1 _ rfl hrd (by intro u hu;simp at hu;rcases hu with rfl|rfl<;>rfl) (by unfold maxLen;omega) (by omega) (by simp;omega) ?_))
        intro A6 c6 w6 hc61 hc62 hr6 hbel6 hown6 hgr6 _
        have e6:L.length+1=L2.length:=by rw [HN2.out,List.length_append];rfl
        rw [e6] at hown6 ⊢
        have HOM6:Hid (w6.ownsRow wp.heap.size 90 2 (.slice A6 L2.length c6) L2.length (L2.flatMap Mk.cs)):=Jh (by
         have:L2.flatMap Mk.cs=L.flatMap Mk.cs++[.int .i64 ((n:Int)+1),.int .i64 bs]:=by rw [HN2.out,List.flatMap_append];rfl
         rw [this]
         exact hown6)
        have HOE6:=Jh ((HOE5.out.alloc _).kept hgr6 (own_apart HEb.out fun g hg=>(HOM5.out.lt g hg).1))
        have hB6:=(HB5.out.alloc _).below hbel6 hgwp
        have c4:=hB6.cell 4
        have f4:=hB6.frozen 4
        have HB6:=Jh hB6
        have HW6:Hid (Below (w.heap.size+3) wm w6):=Jh ((HW5.out.alloc (by omega) _).trans (hbel6.mono (by omega)))
        have hz6:wp.heap.size≤w6.heap.size:=by have:=hbel6.size;simp at this;omega
        clear hc61 hc62 hr6 hbel6 hown6 hgr6 hrd e6 hB6
        go_wp2
        have HOn:Hid (Only gq w6 (w6.setCell ⟨gq,4,none⟩ (.slice A6 L2.length c6))):=Jh ((Only.refl gq w6).setCell (.inl rfl) _)
        have HB9:Hid (Blk (w6.setCell ⟨gq,4,none⟩ (.slice A6 L2.length c6)) gq 53 #[.int .i64 (m.gen+1),.int .i64 (maxI m.cut d.cut),.int .i64 (maxI m.fence d.fence),.slice A' K.length c',.slice A6 L2.length c6,.slice none 0 0]):=Jh (by simpa using HB6.out.set_ 4 (.slice A6 L2.length c6))
        go_roundw
        case rel=>exact ⟨n+1,A6,c6,by omega,by go_num,Jh (own_only HOE6.out HOn.out hgwo),by rw [hL2];exact Jh (own_only HOM6.out HOn.out hgwp),by rw [hL2];exact HB9,Jh (HW6.out.setCell hgq _),by simp;omega⟩
        case measure=>simp [intOf];omega
       ·have f2:decide (0<bs)=false:=dcf e2
        have HN2:Hid (mrkR m d (n+1)=mrkR m d n):=Jh (by rw [HSt.out];unfold mrk1;rw [hbs,if_neg e2,List.append_nil])
        clear hbs e2 HSt
        go_wp2
        go_roundw
        case rel=>exact ⟨n+1,A2,c2,by omega,by go_num,HOE5,by rw [HN2.out];exact HOM5,by rw [HN2.out];exact HB5,HW5,hz5⟩
        case measure=>simp [intOf];omega
     obtain rfl:n=64:=by omega
     have e65:((64:Nat):Int)+1=65:=rfl
     rw [e65]
     have f1:decide ((65:Int)≤64)=false:=by decide
     rw [HF.out.mrkR] at HOM HBk
     go_wp2
     have h6:=HB0.out _ HW.out
     have HMb:=Jh (show ∀ g,(Value.slice A2 (mrks m d).length c2).ownBlock=some g→wp.heap.size≤g∧g<wq.heap.size from fun g hg=>HOM.out.lt g hg)
     have hgwq:gq<wq.heap.size:=by omega
     have hfO:m.O.length≤8:=by
      have:=srt_len (l:=m.O) (a:=1) (b:=8) HF.out.r.srtO (fun x hx=>(ow_in (HF.out.r.owO x hx)).1) (by omega)
      omega
     clear hn f1 hlt hml s0 s1 s2 s3 s4 s5 t0 t1 t2 t3 t4 t5 t6 t7
     go_loopw [19] (fun v wr=>∃ (n:Nat) (A3:Option Addr) (c3:Nat),n≤8∧v=.int .i64 ((n:Int)+1)∧Hid (wr.ownsRow wo.heap.size 85 9 (.slice A' K.length c') K.length (K.flatMap En.cs))∧Hid (wr.ownsRow wp.heap.size 90 2 (.slice A2 (mrks m d).length c2) (mrks m d).length ((mrks m d).flatMap Mk.cs))∧Hid (wr.ownsRow wq.heap.size 26 3 (.slice A3 (ownR m d n).length c3) (ownR m d n).length ((ownR m d n).flatMap Ow.cs))∧Hid (Blk wr gq 53 #[.int .i64 (m.gen+1),.int .i64 (maxI m.cut d.cut),.int .i64 (maxI m.fence d.fence),.slice A' K.length c',.slice A2 (mrks m d).length c2,.slice A3 (ownR m d n).length c3])∧Hid (Below (w.heap.size+3) wm wr)∧wq.heap.size≤wr.heap.size) (fun v _=>9-(intOf v).toNat)
     case atStart=>exact ⟨0,none,0,Nat.zero_le _,rfl,HOE,HOM,Jh (World.ownsRow_nil _ _ _ _),HBk,HW,Nat.le_refl _⟩
     case round =>
      clear HOE HOM HBk HW h6
      obtain ⟨n,A3,c3,hn,rfl,HOE,HOM,HOO,HBk,HW,hzq⟩:=hrel
      obtain ⟨wx,rfl⟩:∃ wx:World,wx=wr:=⟨_,rfl⟩
      have h6:=HB0.out _ HW.out
      by_cases hlt:n<8
      ·have f1:decide ((n:Int)+1≤8)=true:=dct (by omega)
       have hol:=ownR_len m d n
       have hol2:n*(m.O.length+1)≤8*9:=Nat.mul_le_mul (by omega) (by omega)
       have HEd:=Jh (ownK_end m d n)
       obtain ⟨⟨⟨s0,s1,s2,s3,s4,s5⟩,⟨t0,t1,t2,t3,t4,t5,t6,t7⟩⟩,-⟩:=HT.out _ HW.out
       go_wp2
       go_loopw [157] (fun vi wr=>∃ (k:Nat) (A4:Option Addr) (c4:Nat),k≤m.O.length∧vi=.int .i64 (k:Int)∧Hid (wr.ownsRow wo.heap.size 85 9 (.slice A' K.length c') K.length (K.flatMap En.cs))∧Hid (wr.ownsRow wp.heap.size 90 2 (.slice A2 (mrks m d).length c2) (mrks m d).length ((mrks m d).flatMap Mk.cs))∧Hid (wr.ownsRow wq.heap.size 26 3 (.slice A4 (ownK m d n k).length c4) (ownK m d n k).length ((ownK m d n k).flatMap Ow.cs))∧Hid (Blk wr gq 53 #[.int .i64 (m.gen+1),.int .i64 (maxI m.cut d.cut),.int .i64 (maxI m.fence d.fence),.slice A' K.length c',.slice A2 (mrks m d).length c2,.slice A4 (ownK m d n k).length c4])∧Hid (Below (w.heap.size+3) wm wr)∧wq.heap.size≤wr.heap.size) (fun vi _=>m.O.length-(intOf vi).toNat)
       case atStart=>exact ⟨0,A3,c3,Nat.zero_le _,rfl,HOE,HOM,by rw [ownK_zero];exact HOO,by rw [ownK_zero];exact HBk,HW,hzq⟩
       case round =>
        clear HOE HOM HOO HBk HW hzq h6 f1 s0 s1 s2 s3 s4 s5 t0 t1 t2 t3 t4 t5 t6 t7
        obtain ⟨k,A4,c4,hk,rfl,HOE5,HOM5,HOO5,HB5,HW5,hzr⟩:=hrel
        have h6:=HB0.out _ HW5.out
        have hkl:=ownK_len m d n k
        obtain ⟨-,⟨t0,t1,t2,t3,t4,t5,t6,t7⟩⟩:=(HT.out _ HW5.out).1
        have hg1:w.heap.size+1<wr.heap.size:=by omega
        have hg5:gq<wr.heap.size:=by omega
        by_cases hlk:k<m.O.length
        ·have hr:=HRO.out wr h6.1
         obtain ⟨b,off,rfl,hbB⟩:=row_addr hr (by omega)
         obtain ⟨p0,p1,p2⟩:wr.cell? ⟨b,off+k*3,none⟩=some (.int .i64 (gt m.O k).agent)∧wr.cell? ⟨b,off+k*3+1,none⟩=some (.int .i64 (gt m.O k).life)∧wr.cell? ⟨b,off+k*3+2,none⟩=some (.int .i64 (gt m.O k).count):=⟨row_cell ocs_len hr hlk (j:=0) rfl,row_cell ocs_len hr hlk (j:=1) rfl,row_cell ocs_len hr hlk (j:=2) rfl⟩
         have HNx:=Jh (ownK_step (d:=d) (n:=n) hlk)
         clear hr
         generalize gt m.O k=x at *
         have HOE7:=Jh (HOE5.out.alloc (.cells #[.int .i64 x.agent,.int .i64 x.life,.int .i64 x.count] 26))
         have HOM7:=Jh (HOM5.out.alloc (.cells #[.int .i64 x.agent,.int .i64 x.life,.int .i64 x.count] 26))
         have HOO7:=Jh (HOO5.out.alloc (.cells #[.int .i64 x.agent,.int .i64 x.life,.int .i64 x.count] 26))
         have HB7:=Jh (HB5.out.alloc (.cells #[.int .i64 x.agent,.int .i64 x.life,.int .i64 x.count] 26))
         have HW7:Hid (Below (w.heap.size+3) wm (wr.alloc (.cells #[.int .i64 x.agent,.int .i64 x.life,.int .i64 x.count] 26))):=Jh (HW5.out.alloc h6.2 _)
         have hz7:wq.heap.size≤(wr.alloc (.cells #[.int .i64 x.agent,.int .i64 x.life,.int .i64 x.count] 26)).heap.size:=by simp;omega
         by_cases e1:x.agent=(n:Int)+1
         ·have f1:(x.agent == (n:Int)+1)=true:=eqt e1
          by_cases e2:(n:Int)+1=d.by_.agent
          ·have f2:((n:Int)+1 != d.by_.agent)=false:=nef e2
           have HN2:Hid (ownK m d n (k+1)=ownK m d n k):=Jh (by rw [HNx.out,if_neg (fun h=>h.2 e2)])
           clear e1 e2 HNx
           go_wp2
           go_roundw
           case rel=>exact ⟨k+1,A4,c4,by omega,by go_num,HOE7,HOM7,by rw [HN2.out];exact HOO7,by rw [HN2.out];exact HB7,HW7,hz7⟩
           case measure=>simp [intOf];omega
          ·have f2:((n:Int)+1 != d.by_.agent)=true:=net e2
           have HN2:Hid (ownK m d n (k+1)=ownK m d n k++[x]):=Jh (by rw [HNx.out,if_pos ⟨e1,e2⟩])
           clear e1 e2 HNx
           generalize ownK m d n k=L at *
           generalize hL2:ownK m d n (k+1)=L2 at *
           clear HOE5 HOM5 HOO5 HB5 HW5
           obtain ⟨HOE5,HOM5,HOO5,HB5,HW5⟩:Hid _∧Hid _∧Hid _∧Hid _∧Hid _:=⟨HOE7,HOM7,HOO7,HB7,HW7⟩
           have HO6:=Jh (HOO5.out.alloc (.cells #[.int .i64 x.agent,.int .i64 x.life,.int .i64 x.count] 26))
           have hrd:Reads ((wr.alloc (.cells #[.int .i64 x.agent,.int .i64 x.life,.int .i64 x.count] 26)).alloc (.cells #[.int .i64 x.agent,.int .i64 x.life,.int .i64 x.count] 26)) (wr.heap.size+1+1) 3 (some ⟨wr.heap.size+1,0,none⟩) 1 x.cs:=by
            have:=Reads.made (n:=1) (size:=3) (wr.alloc (.cells #[.int .i64 x.agent,.int .i64 x.life,.int .i64 x.count] 26)) #[.int .i64 x.agent,.int .i64 x.life,.int .i64 x.count] 26 rfl
            rw [World.size_alloc] at this
            exact this
           have hsz7:(wr.alloc (.cells #[.int .i64 x.agent,.int .i64 x.life,.int .i64 x.count] 26)).heap.size=wr.heap.size+1:=by simp
           have c5:=HB5.out.cell 5
           go_wp2_with (at_builtin;go_must (refine wpList_append_sl _ rfl (.tmp 173) (.tmp 175) _ rfl wq.heap.size 26 _ 3 24 Tryz.underlying51 Tryz.infoOw rfl (by omega) _ _ _ rfl HO6.out (wr.heap.size+1+1) _ 1 1 _ rfl hrd (ocs1 x) (by unfold maxLen;omega) (by omega) (by simp;omega) ?_))
           intro A6 c6 w6 hc61 hc62 hr6 hbel6 hown6 hgr6 _
           have e6:L.length+1=L2.length:=by rw [HN2.out,List.length_append];rfl
           rw [e6] at hown6 ⊢
           have HOO6:Hid (w6.ownsRow wq.heap.size 26 3 (.slice A6 L2.length c6) L2.length (L2.flatMap Ow.cs)):=Jh (by
            have:L2.flatMap Ow.cs=L.flatMap Ow.cs++x.cs:=by rw [HN2.out,List.flatMap_append];simp
            rw [this]
            exact hown6)
           have HOE6:=Jh ((HOE5.out.alloc _).kept hgr6 (own_apart HEb.out fun g hg=>Nat.le_trans hz (HOO5.out.lt g hg).1))
           have HOM6:=Jh ((HOM5.out.alloc _).kept hgr6 (own_apart HMb.out fun g hg=>(HOO5.out.lt g hg).1))
           have hB6:=(HB5.out.alloc _).below hbel6 hgwq
           have c5:=hB6.cell 5
           have f5:=hB6.frozen 5
           have HB6:=Jh hB6
           have HW6:Hid (Below (w.heap.size+3) wm w6):=Jh ((HW5.out.alloc (by omega) _).trans (hbel6.mono (by omega)))
           have hz6:wq.heap.size≤w6.heap.size:=by have:=hbel6.size;simp at this;omega
           clear hc61 hc62 hr6 hbel6 hown6 hgr6 hrd e6 hB6
           go_wp2
           have HOn:Hid (Only gq w6 (w6.setCell ⟨gq,5,none⟩ (.slice A6 L2.length c6))):=Jh ((Only.refl gq w6).setCell (.inl rfl) _)
           have HB9:Hid (Blk (w6.setCell ⟨gq,5,none⟩ (.slice A6 L2.length c6)) gq 53 #[.int .i64 (m.gen+1),.int .i64 (maxI m.cut d.cut),.int .i64 (maxI m.fence d.fence),.slice A' K.length c',.slice A2 (mrks m d).length c2,.slice A6 L2.length c6]):=Jh (by simpa using HB6.out.set_ 5 (.slice A6 L2.length c6))
           go_roundw
           case rel=>exact ⟨k+1,A6,c6,by omega,by go_num,Jh (own_only HOE6.out HOn.out hgwo),Jh (own_only HOM6.out HOn.out hgwp),by rw [hL2];exact Jh (own_only HOO6.out HOn.out hgwq),by rw [hL2];exact HB9,Jh (HW6.out.setCell hgq _),by simp;omega⟩
           case measure=>simp [intOf];omega
         ·have f1:(x.agent == (n:Int)+1)=false:=eqf e1
          have HN2:Hid (ownK m d n (k+1)=ownK m d n k):=Jh (by rw [HNx.out,if_neg (fun h=>e1 h.1)])
          clear e1 HNx
          go_wp2
          go_roundw
          case rel=>exact ⟨k+1,A4,c4,by omega,by go_num,HOE7,HOM7,by rw [HN2.out];exact HOO7,by rw [HN2.out];exact HB7,HW7,hz7⟩
          case measure=>simp [intOf];omega
        obtain rfl:k=m.O.length:=by omega
        by_cases e2:(n:Int)+1=d.by_.agent
        ·have f2:((n:Int)+1 == d.by_.agent)=true:=eqt e2
         have HN2:Hid (ownR m d (n+1)=ownK m d n m.O.length++[d.by_]):=Jh (by rw [HEd.out,if_pos e2])
         clear e2 HEd
         generalize ownK m d n m.O.length=L at *
         generalize hL2:ownR m d (n+1)=L2 at *
         have HO6:=Jh (HOO5.out.alloc (.cells #[.int .i64 d.by_.agent,.int .i64 d.by_.life,.int .i64 d.by_.count] 26))
         have hrd:Reads (wr.alloc (.cells #[.int .i64 d.by_.agent,.int .i64 d.by_.life,.int .i64 d.by_.count] 26)) (wr.heap.size+1) 3 (some ⟨wr.heap.size,0,none⟩) 1 d.by_.cs:=Reads.made (n:=1) (size:=3) wr #[.int .i64 d.by_.agent,.int .i64 d.by_.life,.int .i64 d.by_.count] 26 rfl
         have c5:=HB5.out.cell 5
         go_wp2_with (at_builtin;go_must (refine wpList_append_sl _ rfl (.tmp 185) (.tmp 188) _ rfl wq.heap.size 26 _ 3 24 Tryz.underlying51 Tryz.infoOw rfl (by omega) _ _ _ rfl HO6.out (wr.heap.size+1) _ 1 1 _ rfl hrd (ocs1 d.by_) (by unfold maxLen;omega) (by omega) (by simp;omega) ?_))
         intro A6 c6 w6 hc61 hc62 hr6 hbel6 hown6 hgr6 _
         have e6:L.length+1=L2.length:=by rw [HN2.out,List.length_append];rfl
         rw [e6] at hown6 ⊢
         have HOO6:Hid (w6.ownsRow wq.heap.size 26 3 (.slice A6 L2.length c6) L2.length (L2.flatMap Ow.cs)):=Jh (by
          have:L2.flatMap Ow.cs=L.flatMap Ow.cs++d.by_.cs:=by rw [HN2.out,List.flatMap_append];simp
          rw [this]
          exact hown6)
         have HOE6:=Jh ((HOE5.out.alloc _).kept hgr6 (own_apart HEb.out fun g hg=>Nat.le_trans hz (HOO5.out.lt g hg).1))
         have HOM6:=Jh ((HOM5.out.alloc _).kept hgr6 (own_apart HMb.out fun g hg=>(HOO5.out.lt g hg).1))
         have hB6:=(HB5.out.alloc _).below hbel6 hgwq
         have c5:=hB6.cell 5
         have f5:=hB6.frozen 5
         have HB6:=Jh hB6
         have HW6:Hid (Below (w.heap.size+3) wm w6):=Jh ((HW5.out.alloc (by omega) _).trans (hbel6.mono (by omega)))
         have hz6:wq.heap.size≤w6.heap.size:=by have:=hbel6.size;simp at this;omega
         clear hc61 hc62 hr6 hbel6 hown6 hgr6 hrd e6 hB6
         go_wp2
         have HOn:Hid (Only gq w6 (w6.setCell ⟨gq,5,none⟩ (.slice A6 L2.length c6))):=Jh ((Only.refl gq w6).setCell (.inl rfl) _)
         have HB9:Hid (Blk (w6.setCell ⟨gq,5,none⟩ (.slice A6 L2.length c6)) gq 53 #[.int .i64 (m.gen+1),.int .i64 (maxI m.cut d.cut),.int .i64 (maxI m.fence d.fence),.slice A' K.length c',.slice A2 (mrks m d).length c2,.slice A6 L2.length c6]):=Jh (by simpa using HB6.out.set_ 5 (.slice A6 L2.length c6))
         go_roundw
         case rel=>exact ⟨n+1,A6,c6,by omega,by go_num,Jh (own_only HOE6.out HOn.out hgwo),Jh (own_only HOM6.out HOn.out hgwp),by rw [hL2];exact Jh (own_only HOO6.out HOn.out hgwq),by rw [hL2];exact HB9,Jh (HW6.out.setCell hgq _),by simp;omega⟩
         case measure=>simp [intOf];omega
        ·have f2:((n:Int)+1 == d.by_.agent)=false:=eqf e2
         have HN2:Hid (ownR m d (n+1)=ownK m d n m.O.length):=Jh (by rw [HEd.out,if_neg e2,List.append_nil])
         clear e2 HEd
         go_wp2
         go_roundw
         case rel=>exact ⟨n+1,A4,c4,by omega,by go_num,HOE5,HOM5,by rw [HN2.out];exact HOO5,by rw [HN2.out];exact HB5,HW5,hzr⟩
         case measure=>simp [intOf];omega
      obtain rfl:n=8:=by omega
      have e9:((8:Nat):Int)+1=9:=rfl
      rw [e9]
      have f1:decide ((9:Int)≤8)=false:=by decide
      have HOw:Hid (ownR m d 8=putL Ow.agent d.by_ m.O):=Jh (by rw [HF.out.ownR];rfl)
      rw [HOw.out] at HOO HBk
      obtain ⟨-,⟨z0,z1,z2,z3,z4,z5⟩,⟨y0,y1,y2,y3,y4,y5⟩⟩:=HT.out wx HW.out
      obtain ⟨q0,q1,q2,q3,q4,q5⟩:wx.cell? ⟨gq,0,none⟩=some (.int .i64 (m.gen+1))∧wx.cell? ⟨gq,1,none⟩=some (.int .i64 (maxI m.cut d.cut))∧wx.cell? ⟨gq,2,none⟩=some (.int .i64 (maxI m.fence d.fence))∧wx.cell? ⟨gq,3,none⟩=some (.slice A' K.length c')∧wx.cell? ⟨gq,4,none⟩=some (.slice A2 (mrks m d).length c2)∧wx.cell? ⟨gq,5,none⟩=some (.slice A3 (putL Ow.agent d.by_ m.O).length c3):=⟨HBk.out.cell 0,HBk.out.cell 1,HBk.out.cell 2,HBk.out.cell 3,HBk.out.cell 4,HBk.out.cell 5⟩
      have HB4:=Jh (set6_blk (HZ.out _ HW.out) (.int .i64 (m.gen+1)) (.int .i64 (maxI m.cut d.cut)) (.int .i64 (maxI m.fence d.fence)) (.slice A' K.length c') (.slice A2 (mrks m d).length c2) (.slice A3 (putL Ow.agent d.by_ m.O).length c3))
      have HFin:Hid (∀ v W,v=.int .i64 0→W=set6 wx (w.heap.size+2) (.int .i64 (m.gen+1)) (.int .i64 (maxI m.cut d.cut)) (.int .i64 (maxI m.fence d.fence)) (.slice A' K.length c') (.slice A2 (mrks m d).length c2) (.slice A3 (putL Ow.agent d.by_ m.O).length c3)→RetAp w (appM m d) (appE m d) (.returned (.tuple #[.agg #[.int .i64 (m.gen+1),.int .i64 (maxI m.cut d.cut),.int .i64 (maxI m.fence d.fence),.slice A' K.length c',.slice A2 (mrks m d).length c2,.slice A3 (putL Ow.agent d.by_ m.O).length c3],v])) W):=Jh (by
       rintro v W rfl rfl
       exact fin_apply HAp.out (by rw [HEn.out]) (by rw [HEn.out];exact HOE.out) HOM.out HOO.out (by omega) (by omega) (by omega) h6.1)
      clear HOE HOM HOO HBk
      go_wp2
      refine bodyPost_ret (results_mf rfl _ _ (w.heap.size+2) 53 _ _ _ rfl rfl HB4.out Tryz.underlying53 rfl (by kernel_rfl)) rfl ?_
      exact HFin.out _ _ (by kernel_rfl) (by unfold set6;rfl)
 ·have f0:(er != 0)=true:=net h0
  have HV:Hid (appE m d=er):=Jh (appE_ref HEr.out h0)
  have HNz:=Jh h0
  clear h0
  go_wp2
  refine bodyPost_ret (results_mf rfl _ _ (w.heap.size+2) 53 #[.int .i64 0,.int .i64 0,.int .i64 0,.slice none 0 0,.slice none 0 0,.slice none 0 0] _ _ rfl rfl (set6_blk (HZ.out _ HE.out) _ _ _ _ _ _) Tryz.underlying53 rfl (by kernel_rfl)) rfl ?_
  exact ret_err HV.out HNz.out (set6_below (HB0.out _ HE.out).1 (by omega) _ _ _ _ _ _)
end Go.Proofs.YtibnehaibgbliaaGreat.Mf
