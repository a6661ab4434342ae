/- What a store's calls answer and leave, without memory (chapter 14; plain). -/
import Derived.Test.YtlljpjehalodfaaGreatStMN
import Derived.Test.YtlljpjehalodfaaGreatStH0
namespace Go.Proofs.YtlljpjehalodfaaGreat
open Go.RowKit
namespace St

structure PO where
  d : Bs
  ver : Int
  born : Int
structure PU where
  key : ByteArray
  born : Int
  parts : List (Int × Bs)
structure PS where
  objs : List (ByteArray × PO)
  ups : List (Int × PU)
  ver : Int
  id : Int
  now : Int
  all : Int
structure PC where
  kind : Int
  key : ByteArray
  d : Bs
  ver : Int
  at_ : Int
  n : Int
  id : Int
structure PR where
  err : Int
  d : Bs
  ver : Int
  born : Int
  id : Int
  list : List It
  more : Bool
def Ob.pure (o : Ob) : PO := ⟨o.d, o.ver, o.born⟩
def Up.pure (u : Up) : PU := ⟨u.key, u.born, u.parts.map fun q => (q.1, q.2.d)⟩
def LS.pure (L : LS) : PS := ⟨L.objs.map fun p => (p.1, p.2.pure), L.ups.map fun p => (p.1, p.2.pure), L.ver, L.id, L.now, L.all⟩
def Cl.pure (x : Cl) : PC := ⟨x.kind, x.key, x.d, x.ver, x.at_, x.n, x.id⟩
def bad (e : Int) : PR := ⟨e, [], 0, 0, 0, [], false⟩
def po0 : PO := ⟨[], 0, 0⟩
def PS.crowded (s : PS) (k : ByteArray) : Bool := !(mget s.objs k).isSome && decide (512 ≤ s.objs.length)
def PS.made (s : PS) (k : ByteArray) (d : Bs) : PS :=
  { s with ver := s.ver + 1, all := s.all + ((d.length : Int) - (((mget s.objs k).getD po0).d.length : Int)), objs := mput ltS s.objs k ⟨d, s.ver + 1, s.now⟩ }
def PS.putE (s : PS) (c : PC) : Int :=
  if rightB c.key = false then 1
  else if c.kind = 2 ∧ (decide (c.ver = 0) = (mget s.objs c.key).isSome) then 8
  else if c.kind = 2 ∧ (mget s.objs c.key).isSome = true ∧ ((mget s.objs c.key).getD po0).ver ≠ c.ver then 8
  else if 262144 < c.d.length then 5
  else if s.crowded c.key = true ∨ 4194304 < s.all - (((mget s.objs c.key).getD po0).d.length : Int) + (c.d.length : Int) then 9
  else 0
def PS.put (s : PS) (c : PC) : PS × PR :=
  if s.putE c = 0 then (s.made c.key c.d, ⟨0, [], s.ver + 1, s.now, 0, [], false⟩) else (s, bad (s.putE c))
def PS.getE (s : PS) (c : PC) : Int :=
  if (mget s.objs c.key).isSome = false then 7
  else if c.kind = 4 ∧ (c.at_ < 0 ∨ c.n < 0 ∨ (((mget s.objs c.key).getD po0).d.length : Int) < c.at_ ∨ (((mget s.objs c.key).getD po0).d.length : Int) - c.at_ < c.n) then 2
  else 0
def PS.getD (s : PS) (c : PC) : Bs := if c.kind = 4 then midB ((mget s.objs c.key).getD po0).d c.at_.toNat c.n.toNat else ((mget s.objs c.key).getD po0).d
def PS.get (s : PS) (c : PC) : PR :=
  if s.getE c = 0 then ⟨0, s.getD c, ((mget s.objs c.key).getD po0).ver, ((mget s.objs c.key).getD po0).born, 0, [], false⟩ else bad (s.getE c)
def listQ (key : ByteArray) (d : Bs) (k : ByteArray) : Bool := !(Lib.hasPrefix k.data.toList key.data.toList) || (Op.bytesLess k.toList d || k.toList == d)
def PS.itO (s : PS) (k : ByteArray) : It := ⟨k, ((mget s.objs k).getD po0).ver, (((mget s.objs k).getD po0).d.length : Int), ((mget s.objs k).getD po0).born⟩
def PS.keys (s : PS) (c : PC) : List ByteArray := keepF (listQ c.key c.d) (s.objs.map fun p => p.1)
def PS.list (s : PS) (c : PC) : PR := ⟨0, [], 0, 0, 0, ((s.keys c).take 16).map s.itO, decide (16 < (s.keys c).length)⟩
def pu0 : PU := ⟨.empty, 0, []⟩
def PU.sum (u : PU) : Nat := msum (fun d : Bs => d.length) u.parts
def PS.itU (s : PS) (id : Int) : It := ⟨((mget s.ups id).getD pu0).key, id, (((mget s.ups id).getD pu0).sum : Int), ((mget s.ups id).getD pu0).born⟩
def PS.ids (s : PS) (c : PC) : List Int := keepF (fun id => decide (id ≤ c.id)) (s.ups.map fun p => p.1)
def PS.opened (s : PS) (c : PC) : PR := ⟨0, [], 0, 0, 0, ((s.ids c).take 16).map s.itU, decide (16 < (s.ids c).length)⟩
def ltI (a b : Int) : Bool := decide (a < b)
def PS.createE (s : PS) (c : PC) : Int := if rightB c.key = false then 1 else if 512 ≤ s.ups.length then 9 else 0
def PS.create (s : PS) (c : PC) : PS × PR :=
  if s.createE c = 0 then ({ s with id := s.id + 1, ups := mput ltI s.ups (s.id + 1) ⟨c.key, s.now, []⟩ }, ⟨0, [], 0, s.now, s.id + 1, [], false⟩) else (s, bad (s.createE c))
def PS.drop (s : PS) (c : PC) : PS × PR :=
  match mget s.objs c.key with
  | none => (s, bad 7)
  | some o => ({ s with all := s.all - (o.d.length : Int), objs := mdel s.objs c.key }, bad 0)
def PS.more (u : PU) (c : PC) : Int := (c.d.length : Int) - (((mget u.parts c.n).getD []).length : Int)
def PS.partE (s : PS) (u : PU) (c : PC) : Int :=
  if c.n < 1 ∨ 32 < c.n then 1 else if 262144 < c.d.length then 5 else if 4194304 < s.all + PS.more u c then 9 else 0
def PS.part (s : PS) (u : PU) (c : PC) : PS × PR :=
  if s.partE u c = 0 then ({ s with all := s.all + PS.more u c, ups := mput ltI s.ups c.id { u with parts := mput ltI u.parts c.n c.d } }, bad 0) else (s, bad (s.partE u c))
def joinP (parts : List (Int × Bs)) : Nat → Option Bs
  | 0 => some []
  | k + 1 => match joinP parts k, mget parts ((k : Int) + 1) with
    | some a, some b => some (a ++ b)
    | _, _ => none
def PS.closed (s : PS) (id : Int) (u : PU) : PS := { s with all := s.all - (u.sum : Int), ups := mdel s.ups id }
def PS.completeE (s : PS) (u : PU) (c : PC) : Int :=
  if c.n < 1 ∨ c.n ≠ (u.parts.length : Int) then 4
  else if (joinP u.parts c.n.toNat).isSome = false then 4
  else if 262144 < ((joinP u.parts c.n.toNat).getD []).length then 5
  else if s.crowded u.key = true then 9
  else 0
def PS.complete (s : PS) (u : PU) (c : PC) : PS × PR :=
  if s.completeE u c = 0 then ((s.closed c.id u).made u.key ((joinP u.parts c.n.toNat).getD []), ⟨0, [], s.ver + 1, s.now, 0, [], false⟩) else (s, bad (s.completeE u c))
def PS.upload (s : PS) (c : PC) : PS × PR :=
  match mget s.ups c.id with
  | none => (s, bad 7)
  | some u => if c.kind = 8 then s.part u c else if c.kind = 9 then s.complete u c else (s.closed c.id u, bad 0)
def PS.step (s : PS) (c : PC) : PS × PR :=
  if c.kind = 1 ∨ c.kind = 2 then s.put c
  else if c.kind = 3 ∨ c.kind = 4 then (s, s.get c)
  else if c.kind = 5 then (s, s.list c)
  else if c.kind = 11 then (s, s.opened c)
  else if c.kind = 7 then s.create c
  else if c.kind = 6 then s.drop c
  else if c.kind = 8 ∨ c.kind = 9 ∨ c.kind = 10 then s.upload c
  else (s, bad 1)
def PS.tick (s : PS) (n : Int) : PS := if tickE s.now n = 0 then { s with now := s.now + n } else s

/-! ### what lies in memory, and what it is without it -/
section
variable {κ β γ : Type} [DecidableEq κ]
theorem mget_map (f : β → γ) (l : List (κ × β)) (k : κ) : mget (l.map fun p => (p.1, f p.2)) k = (mget l k).map f := by
  induction l with
  | nil => rfl
  | cons a r ih =>
    rw [List.map_cons, mget_cons, mget_cons]
    by_cases e : a.1 = k
    · rw [if_pos e, if_pos e]; rfl
    · rw [if_neg e, if_neg e, ih]
theorem mdel_map (f : β → γ) (l : List (κ × β)) (k : κ) : mdel (l.map fun p => (p.1, f p.2)) k = (mdel l k).map fun p => (p.1, f p.2) := by
  unfold mdel
  rw [List.filter_map]
  rfl
omit [DecidableEq κ] in
theorem mins_map (f : β → γ) (lt : κ → κ → Bool) (p : κ × β) (l : List (κ × β)) : mins lt (p.1, f p.2) (l.map fun p => (p.1, f p.2)) = (mins lt p l).map fun p => (p.1, f p.2) := by
  induction l with
  | nil => rfl
  | cons a r ih =>
    rw [List.map_cons]
    unfold mins
    dsimp only
    split
    · rfl
    · rw [List.map_cons, ih]
theorem mput_map (f : β → γ) (lt : κ → κ → Bool) (l : List (κ × β)) (k : κ) (v : β) : mput lt (l.map fun p => (p.1, f p.2)) k (f v) = (mput lt l k v).map fun p => (p.1, f p.2) := by
  unfold mput
  rw [mdel_map]
  exact mins_map f lt (k, v) _
omit [DecidableEq κ] in
theorem msum_map (f : β → γ) (g : γ → Nat) (l : List (κ × β)) : msum g (l.map fun p => (p.1, f p.2)) = msum (fun b => g (f b)) l := by
  unfold msum
  rw [List.map_map]; rfl
end
section
variable {L : LS} {k : ByteArray} {x : Cl}
theorem pure_get (L : LS) (k : ByteArray) : mget L.pure.objs k = (mget L.objs k).map Ob.pure := mget_map _ _ _
theorem pure_some (L : LS) (k : ByteArray) : (mget L.pure.objs k).isSome = (mget L.objs k).isSome := by rw [pure_get]; cases mget L.objs k <;> rfl
theorem pure_ob (L : LS) (k : ByteArray) : (mget L.pure.objs k).getD po0 = ((mget L.objs k).getD ob0).pure := by rw [pure_get]; cases mget L.objs k <;> rfl
theorem pure_crowded (L : LS) (k : ByteArray) : L.pure.crowded k = L.crowded k := by
  unfold PS.crowded LS.crowded
  rw [pure_some]
  show (_ && decide (512 ≤ (L.objs.map _).length)) = _
  rw [List.length_map]
theorem pure_made (L : LS) (k : ByteArray) (A : Option Addr) (c : Nat) (d : Bs) : (L.made k A c d).pure = L.pure.made k d := by
  unfold LS.made PS.made
  rw [pure_ob]
  show PS.mk _ _ _ _ _ _ = PS.mk _ _ _ _ _ _
  congr 1
  exact (mput_map Ob.pure ltS L.objs k _).symm
theorem pure_up (L : LS) (id : Int) : mget L.pure.ups id = (mget L.ups id).map Up.pure := mget_map _ _ _
theorem pure_psum (u : Up) : u.pure.sum = psum u := msum_map (fun p : Pt => p.d) (fun d : Bs => d.length) u.parts
theorem pure_closed (L : LS) (id : Int) (u : Up) : (L.closed id u).pure = L.pure.closed id u.pure := by
  unfold LS.closed PS.closed
  rw [pure_psum]
  show PS.mk _ _ _ _ _ _ = PS.mk _ _ _ _ _ _
  congr 1
  exact (mdel_map Up.pure L.ups id).symm
theorem pure_tick (L : LS) (n : Int) : (L.tick n).pure = L.pure.tick n := by
  unfold LS.tick PS.tick
  show LS.pure (if tickE L.now n = 0 then _ else _) = if tickE L.now n = 0 then _ else _
  split <;> rfl
theorem pure_itO (L : LS) (k : ByteArray) : itO L k = L.pure.itO k := by
  unfold itO PS.itO
  rw [pure_ob]; rfl
end
end St
end Go.Proofs.YtlljpjehalodfaaGreat
