/- Objects listed page by page (chapter 14): plain laws, and the call. -/
import Derived.Test.YtlljpjehalodfaaProg
import Derived.Test.YtlljpjehalodfaaSaE
import Derived.Laws.IdiomStrings
namespace Go.Proofs.Ytlljpjehalodfaa
open Go.RowKit
namespace St

def hasP (p k : ByteArray) : Bool := Lib.hasPrefix k.data.toList p.data.toList
theorem hasP_slice {u v : ByteArray} (h : v.size ≤ u.size) : ((u.extract 0 v.size).toList == v.toList) = hasP v u := by
  rw [ByteArray.toList_eq, ByteArray.toList_eq]
  unfold hasP Lib.hasPrefix
  have hs : v.data.toList.length = v.size := by rw [Array.length_toList]; rfl
  have e : (u.extract 0 v.size).data.toList = u.data.toList.take v.data.toList.length := by
    rw [hs, ByteArray.data_extract, Array.toList_extract]
    simp
  rw [e, Bool.eq_iff_iff, List.isPrefixOf_iff_prefix, beq_iff_eq, List.prefix_iff_eq_take]
  exact eq_comm
theorem hasP_short {u v : ByteArray} (h : ¬ v.size ≤ u.size) : hasP v u = false := by
  unfold hasP Lib.hasPrefix
  rw [Bool.eq_false_iff]
  intro hp
  have hl := (List.isPrefixOf_iff_prefix.1 hp).length_le
  rw [Array.length_toList, Array.length_toList] at hl
  exact h hl
theorem less_yes {x y : ByteArray} (h : ltS x y = true) : Op.bytesLess y.toList x.toList = false ∧ (y.toList == x.toList) = false := by
  refine ⟨by rw [← ltS_less]; exact ltS_asym h, ?_⟩
  rw [beq_eq_false_iff_ne, ByteArray.toList_eq, ByteArray.toList_eq]
  intro e
  rw [show x = y from (ByteArray.ext (Array.toList_inj.1 e)).symm, ltS_irr] at h
  cases h
theorem less_no {x y : ByteArray} (h : ltS x y = false) : (Op.bytesLess y.toList x.toList || y.toList == x.toList) = true := by
  cases hp : Op.bytesLess y.toList x.toList
  · rw [← ltS_less] at hp
    have := ltS_anti h hp
    subst this
    simp
  · rfl
/-- The keys of a prefix. -/
def fk (p : ByteArray) (K : List ByteArray) : List ByteArray := K.filter (hasP p)
def gs_ (l : List ByteArray) (i : Nat) : ByteArray := l.getD i ⟨#[]⟩
theorem gs_eq {l : List ByteArray} {i : Nat} (h : i < l.length) : l[i] = gs_ l i := by simp [gs_, List.getD, List.getElem?_eq_getElem h]
/-- What was told last, behind n keys. -/
structure After (F : List ByteArray) (a : ByteArray) (n : Nat) : Prop where
  le : n ≤ F.length
  nil : n = 0 → a = ⟨#[]⟩
  at_ : ∀ m, n = m + 1 → gs_ F m = a
theorem After.start (F : List ByteArray) : After F ⟨#[]⟩ 0 := ⟨Nat.zero_le _, fun _ => rfl, fun m h => by omega⟩
theorem After.next {F : List ByteArray} {n : Nat} (h : n < F.length) : After F (gs_ F n) (n + 1) := ⟨h, fun h => by omega, fun m hm => by rw [show m = n from by omega]⟩
theorem filt_gt : ∀ {F : List ByteArray} {n : Nat}, n < F.length → F.Pairwise (fun p q => ltS p q = true) → F.filter (fun k => ltS (gs_ F n) k) = F.drop (n + 1)
  | x :: r, 0, _, hs => by
    have hs' := List.pairwise_cons.1 hs
    show List.filter (fun k => ltS x k) (x :: r) = r
    rw [List.filter_cons_of_neg (by rw [ltS_irr]; decide)]
    exact List.filter_eq_self.2 fun y hy => hs'.1 y hy
  | x :: r, n + 1, h, hs => by
    have hs' := List.pairwise_cons.1 hs
    have hn : n < r.length := by simpa using h
    show List.filter (fun k => ltS (gs_ r n) k) (x :: r) = r.drop (n + 1)
    rw [List.filter_cons_of_neg, filt_gt hn hs'.2]
    have : ltS x (gs_ r n) = true := hs'.1 _ (by rw [← gs_eq hn]; exact List.getElem_mem hn)
    rw [ltS_asym this]; decide
theorem empty_lt {k : ByteArray} (h : 1 ≤ k.size) : ltS ⟨#[]⟩ k = true := by
  rcases ltS_tot (a := ⟨#[]⟩) (b := k) (fun e => by rw [← e] at h; exact absurd h (by decide)) with h1 | h1
  · exact h1
  · rw [ltS_less] at h1
    have e : (⟨#[]⟩ : ByteArray).toList = [] := by rw [ByteArray.toList_eq]
    rw [e] at h1
    rw [bytesLess_eq, decide_eq_true_iff] at h1
    exact absurd h1 (List.not_lt_nil _)
theorem rest_keys {p a : ByteArray} {K : List ByteArray} {n : Nat} (hs : K.Pairwise fun x y => ltS x y = true) (h1 : ∀ k ∈ K, 1 ≤ k.size) (ha : After (fk p K) a n) : keepF (listQ p a.data.toList) K = (fk p K).drop n := by
  have hss : (fk p K).Pairwise fun x y => ltS x y = true := hs.sublist List.filter_sublist
  have hq : ∀ k, (!(listQ p a.data.toList k)) = (ltS a k && hasP p k) := fun k => by
    unfold listQ hasP
    cases h : ltS a k
    · have := less_no h
      rw [← ByteArray.toList_eq a, this]; simp
    · have := less_yes h
      rw [← ByteArray.toList_eq a, this.1, this.2]; simp
  have e : keepF (listQ p a.data.toList) K = (fk p K).filter fun k => ltS a k := by
    show List.filter _ K = List.filter _ (List.filter _ K)
    rw [List.filter_filter]
    exact List.filter_congr fun k _ => hq k
  rw [e]
  cases n with
  | zero =>
    rw [ha.nil rfl, List.drop_zero]
    exact List.filter_eq_self.2 fun k hk => empty_lt (h1 k (List.mem_filter.1 hk).1)
  | succ m =>
    rw [← ha.at_ m rfl]
    exact filt_gt ha.le hss
theorem After.less {p a : ByteArray} {K : List ByteArray} {n : Nat} (hs : K.Pairwise fun x y => ltS x y = true) (h1 : ∀ k ∈ K, 1 ≤ k.size) (ha : After (fk p K) a n) (hn : n < (fk p K).length) : ltS a (gs_ (fk p K) n) = true := by
  have hss : (fk p K).Pairwise fun x y => ltS x y = true := hs.sublist List.filter_sublist
  have hm : gs_ (fk p K) n ∈ fk p K := by rw [← gs_eq hn]; exact List.getElem_mem hn
  cases n with
  | zero => rw [ha.nil rfl]; exact empty_lt (h1 _ (List.mem_filter.1 hm).1)
  | succ m =>
    rw [← ha.at_ m rfl, ← gs_eq hn, ← gs_eq (l := fk p K) (i := m) (by omega)]
    exact List.pairwise_iff_getElem.1 hss m (m + 1) (by omega) hn (by omega)
/-- The keys told so far, gone through beside all keys. -/
theorem fk_hit {p : ByteArray} {K : List ByteArray} {q : Nat} (hq : q < K.length) (h : hasP p (gs_ K q) = true) : ∃ hc : (fk p (K.take q)).length < (fk p K).length, gs_ (fk p K) (fk p (K.take q)).length = gs_ K q ∧ (fk p (K.take (q + 1))).length = (fk p (K.take q)).length + 1 := by
  have e1 : K.take (q + 1) = K.take q ++ [gs_ K q] := by rw [List.take_succ_eq_append_getElem hq, gs_eq hq]
  have e2 : fk p (K.take (q + 1)) = fk p (K.take q) ++ [gs_ K q] := by
    unfold fk
    rw [e1, List.filter_append, List.filter_cons_of_pos h]; rfl
  have e3 : fk p K = (fk p (K.take q) ++ [gs_ K q]) ++ fk p (K.drop (q + 1)) := by
    rw [← e2]
    unfold fk
    rw [← List.filter_append, List.take_append_drop]
  refine ⟨by rw [e3]; simp, ?_, by rw [e2]; simp⟩
  unfold gs_
  rw [e3]
  simp [List.getD]
  rfl
theorem fk_miss {p : ByteArray} {K : List ByteArray} {q : Nat} (hq : q < K.length) (h : hasP p (gs_ K q) = false) : (fk p (K.take (q + 1))).length = (fk p (K.take q)).length := by
  have e1 : K.take (q + 1) = K.take q ++ [gs_ K q] := by rw [List.take_succ_eq_append_getElem hq, gs_eq hq]
  unfold fk
  rw [e1, List.filter_append, List.filter_cons_of_neg (by rw [h]; decide)]
  simp
theorem fk_all {p : ByteArray} {K : List ByteArray} : (fk p (K.take K.length)).length = (fk p K).length := by rw [List.take_length]
theorem fk_len (p : ByteArray) (K : List ByteArray) : (fk p K).length ≤ K.length := List.length_filter_le _ _

set_option maxRecDepth 100000 in
/-- []byte(s). -/
theorem conv_str (w : World) (s : ByteArray) : ∃ (d : Bs) (c : Nat) (w' : World), d = s.data.toList ∧ (convert 9 28 (.string s)).run Try.prog w = .ok (.slice (some ⟨w.heap.size, 0, none⟩) d.length c) w' ∧ (∀ gs, gs < w.heap.size → Dat w' gs (some ⟨w.heap.size, 0, none⟩) c d) ∧ Below w.heap.size w w' := by
  have hr := run_bytes_of_string (P := Try.prog) w 9 28 5 s Try.underlying9 Try.underlying28 Try.underlying5
  have hlen : s.data.toList.length = s.size := by rw [Array.length_toList]; rfl
  refine ⟨_, _, _, rfl, by rw [hlen]; exact hr, fun gs hg => ⟨by rw [hlen]; exact grownCap_ge .., fun _ => ⟨w.heap.size, 0, rfl, by omega, fun j u hu => ?_⟩⟩, (Below.refl _ _).drew.alloc (Nat.le_refl _) _⟩
  unfold World.cell?
  rw [show (⟨w.heap.size, 0 + j, none⟩ : Addr).block = w.drew.heap.size from rfl, heap_alloc_new]
  have hj : j < s.data.toList.length := by have := (List.getElem?_eq_some_iff.1 hu).1; rw [List.length_map] at this; exact this
  rw [List.getElem?_map, List.getElem?_eq_getElem hj] at hu
  injection hu with hu
  subst hu
  show (bytesRow s _)[0 + j]? = _
  unfold bytesRow
  have hj' : j < s.data.size := by rw [← Array.length_toList]; exact hj
  rw [Nat.zero_add, Array.getElem?_append_left (by rw [Array.size_map]; exact hj'), Array.getElem?_map, Array.getElem?_eq_getElem hj']
  rfl
theorem own_high {w : World} {base size n c : Nat} {e : TypeId} {A : Option Addr} {xs : List Value} (h : w.ownsRow base e size (.slice A n c) n xs) {a : Addr} (ha : A = some a) : base ≤ a.block := by
  rcases h.2 with ⟨h0, -⟩ | ⟨g, cap, cur, hv, hb, -⟩
  · injection h0 with h0; rw [ha] at h0; cases h0
  · injection hv with hv; rw [ha] at hv; injection hv with hv; subst hv; exact hb
def clList (p : ByteArray) (A : Option Addr) (c : Nat) (d : Bs) : Cl := ⟨5, p, A, c, d, 0, 0, 0, 0⟩
theorem step_list (s : PS) (x : Cl) (h : x.kind = 5) : s.step x.pure = (s, s.list x.pure) := by
  rw [kind_step]
  have hk : x.pure.kind = 5 := h
  rw [if_neg (by omega), if_neg (by omega), if_pos hk]
theorem itO_key (s : PS) (k : ByteArray) : (s.itO k).key = k := rfl
theorem list_live (w : World) {L : LS} {n : Nat} {p : ByteArray} {A : Option Addr} {c : Nat} {d : Bs} {T : List ByteArray} (h : At w L) (hi : PInv L.pure n) (hn : n ≤ 1000000) (hd : Dat w L.gs A c d) (hp : p.size ≤ maxLen) (hdl : d.length ≤ 140737488355328) (hT : keepF (listQ p d) (L.pure.objs.map fun q => q.1) = T) :
    Calls Try.prog 12 #[.pointer (some ⟨L.gs, 0, none⟩), .agg #[.int .i64 5, .string p, .slice A d.length c, .int .i64 0, .int .i64 0, .int .i64 0, .int .i64 0]] w fun e w' => ∃ (its : List It) (A5 : Option Addr) (c5 : Nat) (Al : Option Addr) (cl : Nat), its.map It.key = T.take 16 ∧ e = .returned (.agg #[.int .i64 0, .slice A5 0 c5, .int .i64 0, .int .i64 0, .int .i64 0, .slice Al its.length cl, .bool (decide (16 < T.length))]) ∧ Reads w' w'.heap.size 4 Al its.length (itCells its) ∧ (∀ a, Al = some a → w.heap.size ≤ a.block) ∧ At w' L ∧ Below w.heap.size w w' := by
  refine (do_live w (x := clList p A c d) h hi hn hd ⟨hp, hdl, w0_, w0_⟩).mono ?_
  rintro e w' ⟨L', v, rfl, hr, hs, -⟩
  have e := hs.same (.inr (.inr (.inl rfl)))
  subst e
  rw [step_list _ _ rfl] at hr
  have hk : L'.pure.keys (clList p A c d).pure = T := hT
  obtain ⟨A5, c5, Al, cl, hv, -, h2⟩ := hr
  refine ⟨(L'.pure.list (clList p A c d).pure).list, A5, c5, Al, cl, ?_, ?_, Reads.of_own h2, fun a ha => own_high h2 ha, hs.at_, hs.quiet (.inr (.inr (.inl rfl)))⟩
  · show (((L'.pure.keys _).take 16).map L'.pure.itO).map It.key = _
    rw [hk, List.map_map, show It.key ∘ L'.pure.itO = id from funext fun k => rfl, List.map_id]
  · rw [hv, show (L'.pure.list (clList p A c d).pure).more = decide (16 < T.length) from by rw [← hk]; rfl]; rfl
def it0 : It := ⟨⟨#[]⟩, 0, 0, 0⟩
def gi (l : List It) (i : Nat) : It := l.getD i it0
theorem gi_eq {l : List It} {i : Nat} (h : i < l.length) : l[i] = gi l i := by simp [gi, List.getD, List.getElem?_eq_getElem h]
theorem reads_it {w : World} {B : Nat} {A : Option Addr} {l : List It} (h : Reads w B 4 A l.length (itCells l)) {i : Nat} (hi : i < l.length) : ∃ b off, A = some ⟨b, off, none⟩ ∧ b < B ∧ ∀ j u, j < 4 → ((gi l i).cells)[j]? = some u → w.cell? ⟨b, off + i * 4 + j, none⟩ = some u := by
  obtain ⟨b, off, e, hb, hc⟩ := h.2 (by omega)
  refine ⟨b, off, e, hb, fun j u hj hu => ?_⟩
  rw [Nat.add_assoc]
  refine hc _ _ ?_
  unfold itCells
  rw [flatMap_get (size := 4) (fun _ => rfl) l i hi j hj, gi_eq hi, hu]
theorem gi_key {its : List It} {F : List ByteArray} {n q : Nat} (h : its.map It.key = (F.drop n).take 16) (hq : q < its.length) : n + q < F.length ∧ (gi its q).key = gs_ F (n + q) ∧ q < 16 := by
  have hl := congrArg List.length h
  rw [List.length_map, List.length_take, List.length_drop] at hl
  have hnq : n + q < F.length := by omega
  refine ⟨hnq, ?_, by omega⟩
  have h1 : (its.map It.key)[q]? = ((F.drop n).take 16)[q]? := by rw [h]
  rw [List.getElem?_map, List.getElem?_eq_getElem hq, List.getElem?_take_of_lt (by omega), List.getElem?_drop, List.getElem?_eq_getElem hnq, gi_eq hq, gs_eq hnq] at h1
  exact Option.some.inj h1
theorem its_len {its : List It} {F : List ByteArray} {n : Nat} (h : its.map It.key = (F.drop n).take 16) : its.length = min 16 (F.length - n) := by
  have hl := congrArg List.length h
  rw [List.length_map, List.length_take, List.length_drop] at hl
  exact hl
end St
end Go.Proofs.Ytlljpjehalodfaa
